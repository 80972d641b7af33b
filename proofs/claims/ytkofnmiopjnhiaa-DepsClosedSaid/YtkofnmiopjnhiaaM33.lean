import Derived.Test.YtkofnmiopjnhiaaM31
import Derived.Test.YtkofnmiopjnhiaaEngAH
import Derived.Test.YtkofnmiopjnhiaaM26
import Derived.Test.YtkofnmiopjnhiaaEngZ
import Derived.Test.YtkofnmiopjnhiaaEngAI
/- Names and those that they stand on: the plain laws: rows without a name twice; a name put into a rising row; what a net has; what a name comes to. -/
set_option linter.unusedVariables false
set_option linter.unusedSimpArgs false
set_option maxRecDepth 100000
namespace Go.Proofs.Eng
open Go
abbrev Bs := List UInt8

/-! ### Rows without neighbours that are the same -/
def ddB : List Bs → List Bs
  | [] => []
  | [x] => [x]
  | x :: y :: r => if x = y then ddB (y :: r) else x :: ddB (y :: r)
theorem ddB_snoc : ∀ (l : List Bs) (x : Bs), ddB (l ++ [x]) = if l.getLast? = some x then ddB l else ddB l ++ [x]
  | [], x => by simp [ddB]
  | [y], x => by
    by_cases h : y = x
    · subst h; simp [ddB]
    · simp [ddB, h]
  | y :: z :: r, x => by
    have ih := ddB_snoc (z :: r) x
    simp only [List.cons_append] at ih ⊢
    have e : (y :: z :: r).getLast? = (z :: r).getLast? := by simp
    rw [e]
    simp only [ddB]
    rw [ih]
    by_cases h : y = z
    · simp only [h, if_true]
    · simp only [h, if_false]
      split
      · rfl
      · simp
theorem ddB_mem : ∀ (l : List Bs) (x : Bs), x ∈ ddB l ↔ x ∈ l
  | [], x => by simp [ddB]
  | [y], x => by simp [ddB]
  | y :: z :: r, x => by
    have ih := ddB_mem (z :: r) x
    simp only [ddB]
    split
    · rename_i h
      rw [ih, h]; simp
    · rw [List.mem_cons, ih, ← List.mem_cons]
theorem ddB_len : ∀ l : List Bs, (ddB l).length ≤ l.length
  | [] => Nat.le_refl _
  | [x] => Nat.le_refl _
  | x :: y :: r => by
    have ih := ddB_len (y :: r)
    simp only [ddB]
    split
    · simp only [List.length_cons] at ih ⊢; omega
    · simp only [List.length_cons] at ih ⊢; omega
theorem ddB_sorted : ∀ {l : List Bs}, l.Pairwise (fun a b => a ≤ b) → (ddB l).Pairwise (fun a b => a < b)
  | [], _ => by simp [ddB]
  | [x], _ => by simp [ddB]
  | x :: y :: r, h => by
    have h2 := (List.pairwise_cons.1 h).2
    have ih := ddB_sorted h2
    simp only [ddB]
    split
    · exact ih
    · rename_i hne
      rw [List.pairwise_cons]
      refine ⟨fun z hz => ?_, ih⟩
      rw [ddB_mem] at hz
      have hxy : x ≤ y := (List.pairwise_cons.1 h).1 y (by simp)
      have hlt : x < y := Decidable.byContradiction fun hc => hne (List.le_antisymm hxy (List.not_lt.1 hc))
      rcases List.mem_cons.1 hz with rfl | hz
      · exact hlt
      · have hyz : y ≤ z := (List.pairwise_cons.1 h2).1 z hz
        by_cases hc : y = z
        · rw [← hc]; exact hlt
        · have hyz2 : y < z := Decidable.byContradiction fun k => hc (List.le_antisymm hyz (List.not_lt.1 k))
          exact List.lt_trans hlt hyz2
/-- A rising row has nothing to lose. -/
theorem ddB_id : ∀ {l : List Bs}, (∀ i, i + 1 < l.length → l[i]? ≠ l[i + 1]?) → ddB l = l
  | [], _ => rfl
  | [x], _ => rfl
  | x :: y :: r, h => by
    have hne : x ≠ y := by
      have := h 0 (by simp)
      simpa using this
    simp only [ddB, hne, if_false]
    rw [ddB_id (l := y :: r) (fun i hi => by simpa using h (i + 1) (by simpa using hi))]

/-! ### Rising rows -/
def Up (l : List Bs) : Prop := l.Pairwise fun a b => a < b
theorem Up.nodup {l : List Bs} (h : Up l) : l.Nodup := h.imp fun hab e => by subst e; exact List.lt_irrefl _ hab
theorem Up.eq : ∀ {l l' : List Bs}, Up l → Up l' → (∀ x, x ∈ l ↔ x ∈ l') → l = l'
  | [], [], _, _, _ => rfl
  | [], y :: r, _, _, h => absurd ((h y).2 (by simp)) (by simp)
  | x :: r, [], _, _, h => absurd ((h x).1 (by simp)) (by simp)
  | x :: r, y :: s, h1, h2, h => by
    have a1 := List.pairwise_cons.1 h1
    have a2 := List.pairwise_cons.1 h2
    have hxy : x = y := by
      rcases List.mem_cons.1 ((h x).1 (by simp)) with e | hx
      · exact e
      rcases List.mem_cons.1 ((h y).2 (by simp)) with e | hy
      · exact e.symm
      exact absurd (List.lt_trans (a1.1 y hy) (a2.1 x hx)) (List.lt_irrefl _)
    subst hxy
    have := Up.eq (l := r) (l' := s) a1.2 a2.2 fun z => by
      have hz := h z
      simp only [List.mem_cons] at hz
      constructor
      · intro hm
        rcases hz.1 (.inr hm) with rfl | k
        · exact absurd (a1.1 z hm) (List.lt_irrefl _)
        · exact k
      · intro hm
        rcases hz.2 (.inr hm) with rfl | k
        · exact absurd (a2.1 z hm) (List.lt_irrefl _)
        · exact k
    rw [this]
theorem Up.sort {l : List Bs} (h : l.Nodup) : Up (sortB l) := by
  have hn := ((sortB_perm l).nodup_iff).2 h
  have hs := sortB_sorted l
  rw [List.Nodup] at hn
  exact (List.pairwise_and_iff.2 ⟨hs, hn⟩).imp fun ⟨h1, h2⟩ =>
    Decidable.byContradiction fun h => h2 (List.le_antisymm h1 (List.not_lt.1 h))
def insP : List Bs → Bs → List Bs
  | [], s => [s]
  | x :: r, s => if x < s then x :: insP r s else if x = s then x :: r else s :: x :: r
def insF : List Bs → Bs → Bool
  | [], _ => false
  | x :: r, s => if x < s then insF r s else decide (x = s)
/-- The row, cut where the name goes. -/
theorem insP_cut : ∀ {l : List Bs} {s : Bs} {i : Nat}, i ≤ l.length → (∀ j, j < i → ∃ x, l[j]? = some x ∧ x < s) → (∀ x, l[i]? = some x → ¬ x < s) → (insF l s = true ↔ l[i]? = some s) ∧ (insF l s = false → insP l s = l.take i ++ s :: l.drop i)
  | [], s, i, hi, h1, h2 => by
    have : i = 0 := by simpa using hi
    subst this
    simp [insF, insP]
  | y :: r, s, 0, hi, h1, h2 => by
    have hy := h2 y rfl
    simp only [insF, insP, hy, if_false]
    simp
  | y :: r, s, i + 1, hi, h1, h2 => by
    obtain ⟨x, hx, hlt⟩ := h1 0 (by omega)
    simp only [List.getElem?_cons_zero, Option.some.injEq] at hx
    subst hx
    have ih := insP_cut (l := r) (s := s) (i := i) (by simpa using hi) (fun j hj => by simpa using h1 (j + 1) (by omega)) (fun x hx => h2 x (by simpa using hx))
    simp only [insF, insP, hlt, if_true, List.getElem?_cons_succ, List.take_succ_cons, List.drop_succ_cons, List.cons_append]
    exact ⟨ih.1, fun h => by rw [ih.2 h]⟩

/-! ### What a net has -/
def aGet (k : Bs) (l : List (Bs × AV)) : Option AV := (vFind k l).map Prod.snd
theorem aGet_cons (k : Bs) (e : Bs × AV) (r : List (Bs × AV)) : aGet k (e :: r) = if k = e.1 then some e.2 else aGet k r := by
  unfold aGet
  simp only [vFind]
  split
  · rfl
  · cases vFind k r <;> rfl
theorem vPut_cons (k : Bs) (v : AV) (e : Bs × AV) (r : List (Bs × AV)) : vPut k v (e :: r) = if k = e.1 then (k, v) :: r else e :: vPut k v r := by
  unfold vPut
  simp only [vFind]
  by_cases h : k = e.1
  · simp [h]
  · simp only [h, if_false]
    cases vFind k r <;> simp
theorem aGet_put (k y : Bs) (v : AV) : ∀ l : List (Bs × AV), aGet y (vPut k v l) = if y = k then some v else aGet y l
  | [] => by
    show aGet y [(k, v)] = _
    rw [aGet_cons]
  | e :: r => by
    rw [vPut_cons]
    split
    · rename_i h
      rw [aGet_cons, aGet_cons]
      by_cases h2 : y = k
      · simp [h2]
      · rw [if_neg h2, if_neg h2, if_neg (by rw [← h]; exact h2)]
    · rename_i h
      rw [aGet_cons, aGet_cons, aGet_put k y v r]
      by_cases h2 : y = e.1
      · rw [if_pos h2, if_neg (by rw [h2]; exact Ne.symm h), if_pos h2]
      · rw [if_neg h2, if_neg h2]
theorem keys_put (k : Bs) (v : AV) : ∀ l : List (Bs × AV), (vPut k v l).map Prod.fst = if k ∈ l.map Prod.fst then l.map Prod.fst else l.map Prod.fst ++ [k]
  | [] => rfl
  | e :: r => by
    rw [vPut_cons]
    have ih := keys_put k v r
    by_cases h : k = e.1
    · simp [h]
    · simp only [h, if_false, List.map_cons, ih, List.mem_cons, false_or]
      split <;> simp
theorem keys_nodup_put {k : Bs} {v : AV} {l : List (Bs × AV)} (h : (l.map Prod.fst).Nodup) : ((vPut k v l).map Prod.fst).Nodup := by
  rw [keys_put]
  split
  · exact h
  · rename_i hk
    rw [List.nodup_append]
    exact ⟨h, by simp, by rintro a ha c hc rfl; simp only [List.mem_singleton] at hc; exact hk (hc ▸ ha)⟩
theorem aGet_none {k : Bs} : ∀ {l : List (Bs × AV)}, aGet k l = none ↔ k ∉ l.map Prod.fst
  | [] => by simp [aGet, vFind]
  | e :: r => by
    rw [aGet_cons]
    by_cases h : k = e.1
    · simp [h]
    · simp only [h, if_false, List.map_cons, List.mem_cons, false_or]
      exact aGet_none
theorem keys_len_put {k : Bs} {v : AV} {l : List (Bs × AV)} : (vPut k v l).length ≤ l.length + 1 := by
  have := congrArg List.length (keys_put k v l)
  simp only [List.length_map] at this
  rw [this]
  split <;> simp

/-- Which names stand on which. -/
abbrev NF := Bs → Option (List Bs)
def nPut (f : NF) (k : Bs) (on : List Bs) : NF := fun y => if y = k then some on else f y
/-- One step, to what is there. -/
def Edge (f : NF) (a b : Bs) : Prop := b ∈ (f a).getD [] ∧ (f b).isSome = true
inductive Reach (f : NF) (a : Bs) : Bs → Prop where
  | refl : Reach f a a
  | step {b c : Bs} (h : Reach f a b) (e : Edge f b c) : Reach f a c
theorem Reach.trans {f : NF} {a b c : Bs} (h : Reach f a b) (k : Reach f b c) : Reach f a c := by
  induction k with
  | refl => exact h
  | step _ e ih => exact ih.step e
theorem Reach.dom {f : NF} {a b : Bs} (h : Reach f a b) (k : (f a).isSome = true) : (f b).isSome = true := by
  cases h with
  | refl => exact k
  | step _ e => exact e.2
/-- What is closed under steps has all that one of it comes to. -/
theorem Reach.closed {f : NF} {a b : Bs} {S : Bs → Prop} (h : Reach f a b) (ha : S a) (hs : ∀ x y, S x → Edge f x y → S y) : S b := by
  induction h with
  | refl => exact ha
  | step _ e ih => exact hs _ _ ih e
end Go.Proofs.Eng
/- Names of functions and types: N gives their numbers. Printed by tm.py. -/
namespace Go.Proofs.Eng
def f_lexer_IsWord (N : Nat → Nat) : Nat := N 58
def f_ref03_IsWord (N : Nat → Nat) : Nat := N 59
def f_lexer_IsName (N : Nat → Nat) : Nat := N 60
def f_slices_Contains_sl_string_string (N : Nat → Nat) : Nat := N 74
def f_lexer_words (N : Nat → Nat) : Nat := N 75
def f_lexer_low (N : Nat → Nat) : Nat := N 76
def f_lexer_run (N : Nat → Nat) : Nat := N 77
def f_lexer_inName (N : Nat → Nat) : Nat := N 78
def f_ref04_Name (N : Nat → Nat) : Nat := N 80
def f_slices_Sorted_string (N : Nat → Nat) : Nat := N 82
def f_lexer_digit (N : Nat → Nat) : Nat := N 90
def f_slices_Index_sl_string_string (N : Nat → Nat) : Nat := N 102
def f_ref04_Tag (N : Nat → Nat) : Nat := N 103
def f_slices_Sort_sl_string_string (N : Nat → Nat) : Nat := N 105
def f_law24_lives (N : Nat → Nat) : Nat := N 139
def f_p_deps_Net_On (N : Nat → Nat) : Nat := N 140
def f_p_deps_Net_Put (N : Nat → Nat) : Nat := N 141
def f_p_deps_Net_Names (N : Nat → Nat) : Nat := N 142
def f_p_deps_Net_Missing (N : Nat → Nat) : Nat := N 143
def f_p_deps_Net_Users (N : Nat → Nat) : Nat := N 144
def f_p_deps_Net_Cone (N : Nat → Nat) : Nat := N 145
def f_deps_New (N : Nat → Nat) : Nat := N 150
def f_law07_Same (N : Nat → Nat) : Nat := N 151
def f_slices_Clone_sl_string_string (N : Nat → Nat) : Nat := N 152
def f_slices_ContainsFunc_sl_string_string (N : Nat → Nat) : Nat := N 153
def f_p_deps_Net_Put_1 (N : Nat → Nat) : Nat := N 154
def f_slices_Compact_sl_string_string (N : Nat → Nat) : Nat := N 155
def f_maps_Keys_map_string_sl_string_string_sl_string (N : Nat → Nat) : Nat := N 156
def f_maps_Keys_map_string_bool_string_bool (N : Nat → Nat) : Nat := N 157
def f_slices_DeleteFunc_sl_string_string (N : Nat → Nat) : Nat := N 158
def f_p_deps_Net_Users_1 (N : Nat → Nat) : Nat := N 159
def f_law24_insert (N : Nat → Nat) : Nat := N 171
def f_slices_IndexFunc_sl_string_string (N : Nat → Nat) : Nat := N 172
def f_maps_Keys_map_string_sl_string_string_sl_string_1 (N : Nat → Nat) : Nat := N 173
def f_maps_Keys_map_string_bool_string_bool_1 (N : Nat → Nat) : Nat := N 174
def f_law24_Few (N : Nat → Nat) : Nat := N 573
def t_string (N : Nat → Nat) : Nat := N 100007
def t_p_deps_Net (N : Nat → Nat) : Nat := N 100017
def t_map_string_sl_string (N : Nat → Nat) : Nat := N 100019
def t_deps_Net (N : Nat → Nat) : Nat := N 100021
def t_map_string_bool (N : Nat → Nat) : Nat := N 100022
def t_law24_Row (N : Nat → Nat) : Nat := N 100061
end Go.Proofs.Eng
/- Templates of functions, as the engine takes them; numbers of functions and types by names. Printed by tm.py. -/
set_option linter.unusedVariables false
set_option maxRecDepth 100000
namespace Go.Proofs.Eng
open Go

def L_slices_Compact_sl_string_string_2 (N : Nat → Nat) : AC :=
          .seq (
           .seq (
            .ops [⟨(some 29), .mov (.t 5), none⟩, ⟨(some 30), .mov (.t 4), none⟩, ⟨(some 31), .len (.t 30), none⟩, ⟨(some 32), .bin .lss (.t 29) (.t 31), none⟩]) (
           .cond (.t 32) (
            .skip) (
            .exit 2))) (
          .seq (
           .block 3 (
            .seq (
             .dops 11 [⟨(some 35), .mov (.t 4), none⟩, ⟨(some 36), .mov (.t 5), none⟩, ⟨(some 37), .iaddr 1 (.t 35) (.t 36), none⟩, ⟨(some 38), .load none (.t 37), none⟩, ⟨(some 39), .mov (.t 4), none⟩, ⟨(some 40), .mov (.t 5), none⟩, ⟨(some 41), .bin .sub (.t 40) (.c (.lit (.int .i64 1))), none⟩, ⟨(some 42), .iaddr 1 (.t 39) (.t 41), none⟩, ⟨(some 43), .load none (.t 42), none⟩, ⟨(some 44), .eq true .pstr (.t 38) (.t 43), none⟩] [0, 0, 0, 2, 0, 0, 0, 0, 2, 0] []) (
            .cond (.t 44) (
             .seq (
              .ops [⟨(some 45), .mov (.t 0), none⟩, ⟨(some 46), .mov (.t 3), none⟩, ⟨(some 47), .mov (.t 4), none⟩, ⟨(some 48), .mov (.t 5), none⟩, ⟨(some 49), .iaddr 1 (.t 47) (.t 48), none⟩, ⟨(some 50), .load none (.t 49), none⟩, ⟨(some 51), .iaddr 1 (.t 45) (.t 46), none⟩, ⟨none, .store 1 (.t 51) (.t 50), none⟩]) (
             .ops [⟨(some 52), .mov (.t 3), none⟩, ⟨(some 53), .bin .add (.t 52) (.c (.lit (.int .i64 1))), none⟩, ⟨(some 3), .mov (.t 53), none⟩])) (
             .skip)))) (
          .ops [⟨(some 33), .mov (.t 5), none⟩, ⟨(some 34), .bin .add (.t 33) (.c (.lit (.int .i64 1))), none⟩, ⟨(some 5), .mov (.t 34), none⟩]))
def K_slices_Compact_sl_string_string_1 (N : Nat → Nat) : AC :=
 .seq (
  .ops [⟨(some 54), .mov (.t 0), none⟩, ⟨(some 55), .mov (.t 3), none⟩, ⟨(some 56), .slice 1 (.t 54) (some (.t 55)) none, none⟩, ⟨none, .clear 1 (.lit (.string (mkS []))) (.t 56), none⟩]) (
 .seq (
  .ops [⟨(some 57), .mov (.t 0), none⟩, ⟨(some 58), .mov (.t 3), none⟩, ⟨(some 59), .slice 1 (.t 57) none (some (.t 58)), none⟩, ⟨(some 2), .mov (.t 59), none⟩]) (
 .ret))
def K_slices_Compact_sl_string_string_2 (N : Nat → Nat) : AC :=
 .ops [⟨(some 14), .mov (.t 3), none⟩, ⟨(some 15), .bin .add (.t 14) (.c (.lit (.int .i64 1))), none⟩, ⟨(some 3), .mov (.t 15), none⟩]
def L_slices_Compact_sl_string_string_1 (N : Nat → Nat) : AC :=
    .seq (
     .seq (
      .ops [⟨(some 10), .mov (.t 3), none⟩, ⟨(some 11), .mov (.t 0), none⟩, ⟨(some 12), .len (.t 11), none⟩, ⟨(some 13), .bin .lss (.t 10) (.t 12), none⟩]) (
     .cond (.t 13) (
      .skip) (
      .exit 0))) (
    .seq (
     .block 1 (
      .seq (
       .dops 6 [⟨(some 16), .mov (.t 0), none⟩, ⟨(some 17), .mov (.t 3), none⟩, ⟨(some 18), .iaddr 1 (.t 16) (.t 17), none⟩, ⟨(some 19), .load none (.t 18), none⟩, ⟨(some 20), .mov (.t 0), none⟩, ⟨(some 21), .mov (.t 3), none⟩, ⟨(some 22), .bin .sub (.t 21) (.c (.lit (.int .i64 1))), none⟩, ⟨(some 23), .iaddr 1 (.t 20) (.t 22), none⟩, ⟨(some 24), .load none (.t 23), none⟩, ⟨(some 25), .eq false .pstr (.t 19) (.t 24), none⟩] [0, 0, 0, 2, 0, 0, 0, 0, 2, 0] []) (
      .cond (.t 25) (
       .seq (
        .ops [⟨(some 26), .mov (.t 0), none⟩, ⟨(some 27), .mov (.t 3), none⟩, ⟨(some 28), .slice 1 (.t 26) (some (.t 27)) none, none⟩, ⟨(some 4), .mov (.t 28), none⟩]) (
       .seq (
        .seq (
         .ops [⟨(some 5), .mov (.c (.lit (.int .i64 1))), none⟩]) (
        .block 2 (
         .loop (L_slices_Compact_sl_string_string_2 N)))) (K_slices_Compact_sl_string_string_1 N))) (
       .skip)))) (K_slices_Compact_sl_string_string_2 N))
def K_slices_Compact_sl_string_string_3 (N : Nat → Nat) : AC :=
 .seq (
  .ops [⟨(some 60), .mov (.t 0), none⟩, ⟨(some 2), .mov (.t 60), none⟩]) (
 .ret)
/-- slices.Compact[[]string,string] -/
def C_slices_Compact_sl_string_string (N : Nat → Nat) : AFunc := ⟨61, [.inl 2],
 .seq (
  .ops [⟨(some 2), .mov (.c (.lit (.slice none 0 0))), none⟩]) (
 .seq (
  .seq (
   .ops [⟨(some 6), .mov (.t 0), none⟩, ⟨(some 7), .len (.t 6), none⟩, ⟨(some 8), .bin .lss (.t 7) (.c (.lit (.int .i64 2))), none⟩]) (
  .cond (.t 8) (
   .seq (
    .ops [⟨(some 9), .mov (.t 0), none⟩, ⟨(some 2), .mov (.t 9), none⟩]) (
   .ret)) (
   .skip))) (
 .seq (
  .seq (
   .ops [⟨(some 3), .mov (.c (.lit (.int .i64 1))), none⟩]) (
  .block 0 (
   .loop (L_slices_Compact_sl_string_string_1 N)))) (K_slices_Compact_sl_string_string_3 N))), false⟩

def L_slices_DeleteFunc_sl_string_string_1 (N : Nat → Nat) : AC :=
    .seq (
     .seq (
      .ops [⟨(some 16), .mov (.t 6), none⟩, ⟨(some 17), .mov (.t 0), none⟩, ⟨(some 18), .len (.t 17), none⟩, ⟨(some 19), .bin .lss (.t 16) (.t 18), none⟩]) (
     .cond (.t 19) (
      .skip) (
      .exit 0))) (
    .seq (
     .block 1 (
      .seq (
       .ops [⟨(some 22), .mov (.t 0), none⟩, ⟨(some 23), .mov (.t 6), none⟩, ⟨(some 24), .iaddr 1 (.t 22) (.t 23), none⟩, ⟨(some 25), .load none (.t 24), none⟩, ⟨(some 7), .mov (.t 25), none⟩]) (
      .seq (
       .ops [⟨(some 26), .mov (.t 1), none⟩, ⟨(some 27), .mov (.t 7), none⟩, ⟨(some 28), .call (.t 26) [(.t 27)], none⟩, ⟨(some 29), .un .not (.t 28), none⟩]) (
      .cond (.t 29) (
       .seq (
        .ops [⟨(some 30), .mov (.t 0), none⟩, ⟨(some 31), .mov (.t 5), none⟩, ⟨(some 32), .mov (.t 7), none⟩, ⟨(some 33), .iaddr 1 (.t 30) (.t 31), none⟩, ⟨none, .store 1 (.t 33) (.t 32), none⟩]) (
       .ops [⟨(some 34), .mov (.t 5), none⟩, ⟨(some 35), .bin .add (.t 34) (.c (.lit (.int .i64 1))), none⟩, ⟨(some 5), .mov (.t 35), none⟩])) (
       .skip))))) (
    .ops [⟨(some 20), .mov (.t 6), none⟩, ⟨(some 21), .bin .add (.t 20) (.c (.lit (.int .i64 1))), none⟩, ⟨(some 6), .mov (.t 21), none⟩]))
def K_slices_DeleteFunc_sl_string_string_1 (N : Nat → Nat) : AC :=
 .seq (
  .ops [⟨(some 36), .mov (.t 0), none⟩, ⟨(some 37), .mov (.t 5), none⟩, ⟨(some 38), .slice 1 (.t 36) (some (.t 37)) none, none⟩, ⟨none, .clear 1 (.lit (.string (mkS []))) (.t 38), none⟩]) (
 .seq (
  .ops [⟨(some 39), .mov (.t 0), none⟩, ⟨(some 40), .mov (.t 5), none⟩, ⟨(some 41), .slice 1 (.t 39) none (some (.t 40)), none⟩, ⟨(some 4), .mov (.t 41), none⟩]) (
 .ret))
/-- slices.DeleteFunc[[]string,string] -/
def C_slices_DeleteFunc_sl_string_string (N : Nat → Nat) : AFunc := ⟨42, [.inl 4],
 .seq (
  .ops [⟨(some 4), .mov (.c (.lit (.slice none 0 0))), none⟩]) (
 .seq (
  .ops [⟨(some 8), .mov (.t 0), none⟩, ⟨(some 9), .mov (.t 1), none⟩, ⟨(some 10), .call (.c (.fn (f_slices_IndexFunc_sl_string_string N) [] [])) [(.t 8), (.t 9)], none⟩, ⟨(some 5), .mov (.t 10), none⟩]) (
 .seq (
  .seq (
   .ops [⟨(some 11), .mov (.t 5), none⟩, ⟨(some 12), .eq false .pint (.t 11) (.c (.lit (.int .i64 (-1)))), none⟩]) (
  .cond (.t 12) (
   .seq (
    .ops [⟨(some 13), .mov (.t 0), none⟩, ⟨(some 4), .mov (.t 13), none⟩]) (
   .ret)) (
   .skip))) (
 .seq (
  .seq (
   .ops [⟨(some 14), .mov (.t 5), none⟩, ⟨(some 15), .bin .add (.t 14) (.c (.lit (.int .i64 1))), none⟩, ⟨(some 6), .mov (.t 15), none⟩]) (
  .block 0 (
   .loop (L_slices_DeleteFunc_sl_string_string_1 N)))) (K_slices_DeleteFunc_sl_string_string_1 N)))), false⟩

end Go.Proofs.Eng
/- Templates of functions, as the engine takes them; numbers of functions and types by names. Printed by tm.py. -/
set_option linter.unusedVariables false
set_option maxRecDepth 100000
namespace Go.Proofs.Eng
open Go

/-- slices.Clone[[]string,string] -/
def C_slices_Clone_sl_string_string (N : Nat → Nat) : AFunc := ⟨8, [.inl 2],
 .seq (
  .ops [⟨(some 2), .mov (.c (.lit (.slice none 0 0))), none⟩]) (
 .seq (
  .seq (
   .ops [⟨(some 3), .mov (.t 0), none⟩, ⟨(some 4), .eq false .pslice (.t 3) (.c (.lit (.slice none 0 0))), none⟩]) (
  .cond (.t 4) (
   .seq (
    .ops [⟨(some 2), .mov (.c (.lit (.slice none 0 0))), none⟩]) (
   .ret)) (
   .skip))) (
 .seq (
  .ops [⟨(some 5), .bslice (t_string N) 1 none 0 [(.lit (.string (mkS [])))] [], none⟩, ⟨(some 6), .mov (.t 0), none⟩, ⟨(some 7), .append (t_string N) 1 16 (.t 5) (.t 6), none⟩, ⟨(some 2), .mov (.t 7), none⟩]) (
 .ret))), false⟩

/-- slices.ContainsFunc[[]string,string] -/
def C_slices_ContainsFunc_sl_string_string (N : Nat → Nat) : AFunc := ⟨9, [.inl 4],
 .seq (
  .ops [⟨(some 4), .mov (.c (.lit (.bool false))), none⟩]) (
 .seq (
  .ops [⟨(some 5), .mov (.t 0), none⟩, ⟨(some 6), .mov (.t 1), none⟩, ⟨(some 7), .call (.c (.fn (f_slices_IndexFunc_sl_string_string N) [] [])) [(.t 5), (.t 6)], none⟩, ⟨(some 8), .bin .geq (.t 7) (.c (.lit (.int .i64 0))), none⟩, ⟨(some 4), .mov (.t 8), none⟩]) (
 .ret)), false⟩

def L_slices_IndexFunc_sl_string_string_1 (N : Nat → Nat) : AC :=
    .seq (
     .ops [⟨(some 9), .bin .lss (.t 8) (.t 7), none⟩]) (
    .seq (
     .cond (.t 9) (
      .skip) (
      .exit 0)) (
    .seq (
     .block 1 (
      .seq (
       .ops [⟨(some 10), .mov (.t 8), none⟩, ⟨(some 5), .mov (.t 10), none⟩]) (
      .seq (
       .ops [⟨(some 11), .mov (.t 1), none⟩, ⟨(some 12), .mov (.t 0), none⟩, ⟨(some 13), .mov (.t 5), none⟩, ⟨(some 14), .iaddr 1 (.t 12) (.t 13), none⟩, ⟨(some 15), .load none (.t 14), none⟩, ⟨(some 16), .call (.t 11) [(.t 15)], none⟩]) (
      .cond (.t 16) (
       .seq (
        .ops [⟨(some 17), .mov (.t 5), none⟩, ⟨(some 4), .mov (.t 17), none⟩]) (
       .ret)) (
       .skip))))) (
    .ops [⟨(some 18), .bin .add (.t 8) (.c (.lit (.int .i64 1))), none⟩, ⟨(some 8), .mov (.t 18), none⟩])))
def K_slices_IndexFunc_sl_string_string_1 (N : Nat → Nat) : AC :=
 .seq (
  .ops [⟨(some 4), .mov (.c (.lit (.int .i64 (-1)))), none⟩]) (
 .ret)
/-- slices.IndexFunc[[]string,string] -/
def C_slices_IndexFunc_sl_string_string (N : Nat → Nat) : AFunc := ⟨19, [.inl 4],
 .seq (
  .ops [⟨(some 4), .mov (.c (.lit (.int .i64 0))), none⟩]) (
 .seq (
  .seq (
   .ops [⟨(some 6), .mov (.t 0), none⟩, ⟨(some 7), .len (.t 6), none⟩, ⟨(some 8), .mov (.c (.lit (.int .i64 0))), none⟩]) (
  .block 0 (
   .loop (L_slices_IndexFunc_sl_string_string_1 N)))) (K_slices_IndexFunc_sl_string_string_1 N)), false⟩

end Go.Proofs.Eng
/- Templates of functions, as the engine takes them; numbers of functions and types by names. Printed by tm.py. -/
set_option linter.unusedVariables false
set_option maxRecDepth 100000
namespace Go.Proofs.Eng
open Go

/-- azimuth/lexer.IsName -/
def C_lexer_IsName (N : Nat → Nat) : AFunc := ⟨22, [.inl 2],
 .seq (
  .ops [⟨(some 2), .mov (.c (.lit (.bool false))), none⟩]) (
 .seq (
  .ops [⟨(some 3), .mov (.t 0), none⟩, ⟨(some 4), .eq true .pstr (.t 3) (.c (.lit (.string (mkS [])))), none⟩, ⟨(some 5), .mov (.t 4), none⟩, ⟨(some 6), .mov (.t 0), (some (5, true))⟩, ⟨(some 7), .sidx (.t 6) (.c (.lit (.int .i64 0))), (some (5, true))⟩, ⟨(some 8), .call (.c (.fn (f_lexer_low N) [] [])) [(.t 7)], (some (5, true))⟩, ⟨(some 9), .pick (.t 5) (.t 8) (.c (.lit (.bool false))), none⟩, ⟨(some 10), .mov (.t 9), none⟩, ⟨(some 11), .mov (.t 0), (some (10, true))⟩, ⟨(some 12), .call (.c (.fn (f_lexer_run N) [] [])) [(.t 11), (.c (.fn (f_lexer_inName N) [] []))], (some (10, true))⟩, ⟨(some 13), .mov (.t 0), (some (10, true))⟩, ⟨(some 14), .lens (.t 13), (some (10, true))⟩, ⟨(some 15), .eq false .pint (.t 12) (.t 14), (some (10, true))⟩, ⟨(some 16), .pick (.t 10) (.t 15) (.c (.lit (.bool false))), none⟩, ⟨(some 17), .mov (.t 16), none⟩, ⟨(some 18), .mov (.t 0), (some (17, true))⟩, ⟨(some 19), .call (.c (.fn (f_lexer_IsWord N) [] [])) [(.t 18)], (some (17, true))⟩, ⟨(some 20), .un .not (.t 19), (some (17, true))⟩, ⟨(some 21), .pick (.t 17) (.t 20) (.c (.lit (.bool false))), none⟩, ⟨(some 2), .mov (.t 21), none⟩]) (
 .ret)), false⟩

/-- azimuth/lexer.IsWord -/
def C_lexer_IsWord (N : Nat → Nat) : AFunc := ⟨6, [.inl 2],
 .seq (
  .ops [⟨(some 2), .mov (.c (.lit (.bool false))), none⟩]) (
 .seq (
  .ops [⟨(some 3), .call (.c (.fn (f_lexer_words N) [] [])) [], none⟩, ⟨(some 4), .mov (.t 0), none⟩, ⟨(some 5), .call (.c (.fn (f_slices_Contains_sl_string_string N) [] [])) [(.t 3), (.t 4)], none⟩, ⟨(some 2), .mov (.t 5), none⟩]) (
 .ret)), false⟩

/-- azimuth/lexer.digit -/
def C_lexer_digit (N : Nat → Nat) : AFunc := ⟨9, [.inl 2],
 .seq (
  .ops [⟨(some 2), .mov (.c (.lit (.bool false))), none⟩]) (
 .seq (
  .ops [⟨(some 3), .mov (.t 0), none⟩, ⟨(some 4), .bin .geq (.t 3) (.c (.lit (.int .u8 48))), none⟩, ⟨(some 5), .mov (.t 4), none⟩, ⟨(some 6), .mov (.t 0), (some (5, true))⟩, ⟨(some 7), .bin .leq (.t 6) (.c (.lit (.int .u8 57))), (some (5, true))⟩, ⟨(some 8), .pick (.t 5) (.t 7) (.c (.lit (.bool false))), none⟩, ⟨(some 2), .mov (.t 8), none⟩]) (
 .ret)), false⟩

/-- azimuth/lexer.inName -/
def C_lexer_inName (N : Nat → Nat) : AFunc := ⟨9, [.inl 2],
 .seq (
  .ops [⟨(some 2), .mov (.c (.lit (.bool false))), none⟩]) (
 .seq (
  .ops [⟨(some 3), .mov (.t 0), none⟩, ⟨(some 4), .call (.c (.fn (f_lexer_low N) [] [])) [(.t 3)], none⟩, ⟨(some 5), .mov (.t 4), none⟩, ⟨(some 6), .mov (.t 0), (some (5, false))⟩, ⟨(some 7), .call (.c (.fn (f_lexer_digit N) [] [])) [(.t 6)], (some (5, false))⟩, ⟨(some 8), .pick (.t 5) (.c (.lit (.bool true))) (.t 7), none⟩, ⟨(some 2), .mov (.t 8), none⟩]) (
 .ret)), false⟩

/-- azimuth/lexer.low -/
def C_lexer_low (N : Nat → Nat) : AFunc := ⟨13, [.inl 2],
 .seq (
  .ops [⟨(some 2), .mov (.c (.lit (.bool false))), none⟩]) (
 .seq (
  .ops [⟨(some 3), .mov (.t 0), none⟩, ⟨(some 4), .bin .geq (.t 3) (.c (.lit (.int .u8 97))), none⟩, ⟨(some 5), .mov (.t 4), none⟩, ⟨(some 6), .mov (.t 0), (some (5, true))⟩, ⟨(some 7), .bin .leq (.t 6) (.c (.lit (.int .u8 122))), (some (5, true))⟩, ⟨(some 8), .pick (.t 5) (.t 7) (.c (.lit (.bool false))), none⟩, ⟨(some 9), .mov (.t 8), none⟩, ⟨(some 10), .mov (.t 0), (some (9, false))⟩, ⟨(some 11), .eq false .pint (.t 10) (.c (.lit (.int .u8 95))), (some (9, false))⟩, ⟨(some 12), .pick (.t 9) (.c (.lit (.bool true))) (.t 11), none⟩, ⟨(some 2), .mov (.t 12), none⟩]) (
 .ret)), false⟩

def L_lexer_run_1 (N : Nat → Nat) : AC :=
    .seq (
     .seq (
      .ops [⟨(some 6), .mov (.t 5), none⟩, ⟨(some 7), .mov (.t 0), none⟩, ⟨(some 8), .lens (.t 7), none⟩, ⟨(some 9), .bin .lss (.t 6) (.t 8), none⟩, ⟨(some 10), .mov (.t 9), none⟩, ⟨(some 11), .mov (.t 1), (some (10, true))⟩, ⟨(some 12), .mov (.t 0), (some (10, true))⟩, ⟨(some 13), .mov (.t 5), (some (10, true))⟩, ⟨(some 14), .sidx (.t 12) (.t 13), (some (10, true))⟩, ⟨(some 15), .call (.t 11) [(.t 14)], (some (10, true))⟩, ⟨(some 16), .pick (.t 10) (.t 15) (.c (.lit (.bool false))), none⟩]) (
     .cond (.t 16) (
      .skip) (
      .exit 0))) (
    .block 1 (
     .ops [⟨(some 17), .mov (.t 5), none⟩, ⟨(some 18), .bin .add (.t 17) (.c (.lit (.int .i64 1))), none⟩, ⟨(some 5), .mov (.t 18), none⟩]))
def K_lexer_run_1 (N : Nat → Nat) : AC :=
 .seq (
  .ops [⟨(some 19), .mov (.t 5), none⟩, ⟨(some 4), .mov (.t 19), none⟩]) (
 .ret)
/-- azimuth/lexer.run -/
def C_lexer_run (N : Nat → Nat) : AFunc := ⟨20, [.inl 4],
 .seq (
  .ops [⟨(some 4), .mov (.c (.lit (.int .i64 0))), none⟩]) (
 .seq (
  .ops [⟨(some 5), .mov (.c (.lit (.int .i64 0))), none⟩]) (
 .seq (
  .block 0 (
   .loop (L_lexer_run_1 N))) (K_lexer_run_1 N))), false⟩

/-- azimuth/lexer.words -/
def C_lexer_words (N : Nat → Nat) : AFunc := ⟨2, [.inl 0],
 .seq (
  .ops [⟨(some 0), .mov (.c (.lit (.slice none 0 0))), none⟩]) (
 .seq (
  .ops [⟨(some 1), .bslice (t_string N) 1 none 20 [(.lit (.string (mkS [])))] [(0, 1, (.c (.lit (.string (mkS [102, 117, 110]))))), (1, 1, (.c (.lit (.string (mkS [108, 101, 116]))))), (2, 1, (.c (.lit (.string (mkS [114, 101, 99]))))), (3, 1, (.c (.lit (.string (mkS [105, 110]))))), (4, 1, (.c (.lit (.string (mkS [105, 102]))))), (5, 1, (.c (.lit (.string (mkS [116, 104, 101, 110]))))), (6, 1, (.c (.lit (.string (mkS [101, 108, 115, 101]))))), (7, 1, (.c (.lit (.string (mkS [99, 97, 115, 101]))))), (8, 1, (.c (.lit (.string (mkS [111, 102]))))), (9, 1, (.c (.lit (.string (mkS [101, 110, 100]))))), (10, 1, (.c (.lit (.string (mkS [116, 114, 117, 101]))))), (11, 1, (.c (.lit (.string (mkS [102, 97, 108, 115, 101]))))), (12, 1, (.c (.lit (.string (mkS [105, 110, 116]))))), (13, 1, (.c (.lit (.string (mkS [98, 111, 111, 108]))))), (14, 1, (.c (.lit (.string (mkS [115, 116, 114]))))), (15, 1, (.c (.lit (.string (mkS [102, 108, 111, 97, 116]))))), (16, 1, (.c (.lit (.string (mkS [100, 121, 110]))))), (17, 1, (.c (.lit (.string (mkS [97, 110, 121]))))), (18, 1, (.c (.lit (.string (mkS [110, 111, 110, 101]))))), (19, 1, (.c (.lit (.string (mkS [116, 121, 112, 101])))))], none⟩, ⟨(some 0), .mov (.t 1), none⟩]) (
 .ret)), true⟩

/-- slices.Contains[[]string,string] -/
def C_slices_Contains_sl_string_string (N : Nat → Nat) : AFunc := ⟨9, [.inl 4],
 .seq (
  .ops [⟨(some 4), .mov (.c (.lit (.bool false))), none⟩]) (
 .seq (
  .ops [⟨(some 5), .mov (.t 0), none⟩, ⟨(some 6), .mov (.t 1), none⟩, ⟨(some 7), .call (.c (.fn (f_slices_Index_sl_string_string N) [] [])) [(.t 5), (.t 6)], none⟩, ⟨(some 8), .bin .geq (.t 7) (.c (.lit (.int .i64 0))), none⟩, ⟨(some 4), .mov (.t 8), none⟩]) (
 .ret)), false⟩

def L_slices_Index_sl_string_string_1 (N : Nat → Nat) : AC :=
    .seq (
     .ops [⟨(some 9), .bin .lss (.t 8) (.t 7), none⟩]) (
    .seq (
     .cond (.t 9) (
      .skip) (
      .exit 0)) (
    .seq (
     .block 1 (
      .seq (
       .ops [⟨(some 10), .mov (.t 8), none⟩, ⟨(some 5), .mov (.t 10), none⟩]) (
      .seq (
       .ops [⟨(some 11), .mov (.t 1), none⟩, ⟨(some 12), .mov (.t 0), none⟩, ⟨(some 13), .mov (.t 5), none⟩, ⟨(some 14), .iaddr 1 (.t 12) (.t 13), none⟩, ⟨(some 15), .load none (.t 14), none⟩, ⟨(some 16), .eq false .pstr (.t 11) (.t 15), none⟩]) (
      .cond (.t 16) (
       .seq (
        .ops [⟨(some 17), .mov (.t 5), none⟩, ⟨(some 4), .mov (.t 17), none⟩]) (
       .ret)) (
       .skip))))) (
    .ops [⟨(some 18), .bin .add (.t 8) (.c (.lit (.int .i64 1))), none⟩, ⟨(some 8), .mov (.t 18), none⟩])))
def K_slices_Index_sl_string_string_1 (N : Nat → Nat) : AC :=
 .seq (
  .ops [⟨(some 4), .mov (.c (.lit (.int .i64 (-1)))), none⟩]) (
 .ret)
/-- slices.Index[[]string,string] -/
def C_slices_Index_sl_string_string (N : Nat → Nat) : AFunc := ⟨19, [.inl 4],
 .seq (
  .ops [⟨(some 4), .mov (.c (.lit (.int .i64 0))), none⟩]) (
 .seq (
  .seq (
   .ops [⟨(some 6), .mov (.t 0), none⟩, ⟨(some 7), .len (.t 6), none⟩, ⟨(some 8), .mov (.c (.lit (.int .i64 0))), none⟩]) (
  .block 0 (
   .loop (L_slices_Index_sl_string_string_1 N)))) (K_slices_Index_sl_string_string_1 N)), false⟩

end Go.Proofs.Eng
/- Texts: places, cuts; what the library's functions of texts tell, run by the engine. -/
set_option linter.unusedVariables false
set_option linter.unusedSimpArgs false
set_option maxRecDepth 100000
namespace Go.Proofs.Eng
open Go
section
variable {Γ : Sums} {A : Tab} {N : Nat → Nat}

@[simp] theorem resR_inr_inl {t u : Nat} {l : Option Nat} {ρ : Rho} {H : Hp} : resR [.inr (t, l), .inl u] ρ H = (aload H l (ρ t)).map fun a => .tup [a, ρ u] := by
  simp [resR, resOneR, List.mapM_cons]
  cases aload H l (ρ t) <;> rfl
@[simp] theorem resR_inl_inr {t u : Nat} {m : Option Nat} {ρ : Rho} {H : Hp} : resR [.inl t, .inr (u, m)] ρ H = (aload H m (ρ u)).map fun b => .tup [ρ t, b] := by
  simp [resR, resOneR, List.mapM_cons]
  cases aload H m (ρ u) <;> rfl
@[simp] theorem loadC3 {a b c : AV} : loadC (some 3) [a, b, c] = some (.agg [a, b, c]) := by simp [loadC]
@[simp] theorem loadC_one {a : AV} : loadC none [a] = some a := by simp [loadC]
@[simp] theorem abin_geqB {c : UInt8} {n : Int} : abin .geq (avByte c) (.lit (.int .u8 n)) = some (avBool (decide (n ≤ c.toNat))) := by simp [avByte]
@[simp] theorem abin_leqB {c : UInt8} {n : Int} : abin .leq (avByte c) (.lit (.int .u8 n)) = some (avBool (decide ((c.toNat : Int) ≤ n))) := by simp [avByte]
@[simp] theorem abin_lssB {c : UInt8} {n : Int} : abin .lss (avByte c) (.lit (.int .u8 n)) = some (avBool (decide ((c.toNat : Int) < n))) := by simp [avByte]
@[simp] theorem abin_gtrB {c : UInt8} {n : Int} : abin .gtr (avByte c) (.lit (.int .u8 n)) = some (avBool (decide (n < (c.toNat : Int)))) := by simp [avByte]
@[simp] theorem aeq_byte {c : UInt8} {n : Int} : aeq .pint (avByte c) (.lit (.int .u8 n)) = some (decide ((c.toNat : Int) = n)) := by simp [avByte]
theorem asidx_str {k : IntKind} {s : List UInt8} {i : Int} (h0 : 0 ≤ i) (h : i.toNat < s.length) : asidx (avStr s) (.lit (.int k i)) = some (avByte s[i.toNat]) := by
  simp [asidx, h0, List.getElem?_eq_getElem h, avByte]
theorem asidx_nat {k : IntKind} {s : List UInt8} {i : Nat} (h : i < s.length) : asidx (avStr s) (.lit (.int k i)) = some (avByte s[i]) := by
  have := asidx_str (k := k) (s := s) (i := (i : Int)) (by omega) (by simpa using h)
  simpa using this
theorem aslstr_cut {k k' : IntKind} {s : List UInt8} {i j : Int} (h0 : 0 ≤ i) (h1 : i ≤ j) (h : j.toNat ≤ s.length) : aslstr (avStr s) (some (.lit (.int k i))) (some (.lit (.int k' j))) = some (avStr ((s.drop i.toNat).take (j.toNat - i.toNat))) := by
  have h2 : i ≤ max j 0 := by omega
  have h3 : 0 ≤ j := by omega
  have h4 : j ≤ (s.length : Int) := by omega
  simp [aslstr, aBound, h0, h2, h3, h4]

theorem settleZ_ra {H H1 : Hp} {es : List AV} {t : TypeId} {m : Nat} (h1 : H1 = halloc { l := H.l, d := none } (.arr 1 es t)) (hm : m = es.length) (hl : ∀ x ∈ es, ∃ v, x = .lit v) :
    settleZ true H (.ra 1 H.l.length 0 m) H1 = (.sl 1 es, none) := by
  subst h1; subst hm
  apply settleZ_frz
  · simp [keeps]
  · rw [frz_ra (es := es) (t := t) (by simp) (by simp) (by simp), List.drop_zero, List.take_length, frz_lits hl]
    rfl

/-! ### HasPrefix, CutPrefix, IndexByte -/
end
end Go.Proofs.Eng
/- The small functions of package lexer, run by the engine. -/
set_option linter.unusedVariables false
set_option linter.unusedSimpArgs false
set_option maxRecDepth 100000
namespace Go.Proofs.Eng
open Go
section
variable {Γ : Sums} {A : Tab} {N : Nat → Nat}

def isLow (c : UInt8) : Bool := decide (97 ≤ c.toNat) && decide (c.toNat ≤ 122) || decide (c.toNat = 95)
def isDigit (c : UInt8) : Bool := decide (48 ≤ c.toNat) && decide (c.toNat ≤ 57)
def isInName (c : UInt8) : Bool := isLow c || isDigit c
def wordsL : List (List UInt8) := [[102, 117, 110], [108, 101, 116], [114, 101, 99], [105, 110], [105, 102], [116, 104, 101, 110], [101, 108, 115, 101], [99, 97, 115, 101], [111, 102], [101, 110, 100], [116, 114, 117, 101], [102, 97, 108, 115, 101], [105, 110, 116], [98, 111, 111, 108], [115, 116, 114], [102, 108, 111, 97, 116], [100, 121, 110], [97, 110, 121], [110, 111, 110, 101], [116, 121, 112, 101]]
/-- How many of the first bytes may be. -/
def runB (p : UInt8 → Bool) (s : List UInt8) : Nat := (s.takeWhile p).length
theorem runB_drop (p : UInt8 → Bool) (s : List UInt8) (i : Nat) (h : (s.take i).all p = true) (hi : i ≤ s.length) : runB p s = i + runB p (s.drop i) := by
  induction i generalizing s with
  | zero => simp
  | succ i ih =>
    cases s with
    | nil => simp at hi
    | cons a s =>
      simp only [List.take_succ_cons, List.all_cons, Bool.and_eq_true] at h
      simp only [List.length_cons] at hi
      have := ih s h.2 (by omega)
      simp only [runB, List.takeWhile_cons, h.1, if_true, List.length_cons, List.drop_succ_cons] at this ⊢
      omega
theorem runB_stop {p : UInt8 → Bool} {a : UInt8} {s : List UInt8} (h : p a = false) : runB p (a :: s) = 0 := by simp [runB, h]

/-! ### Words -/
theorem aiaddr_sln {sz : Nat} {xs : List AV} {k : IntKind} {i : Nat} {x : AV} (h : xs[i]? = some x) (hg : x.good = true) : aiaddr sz (.sl sz xs) (.lit (.int k i)) = some (.vp x.cells) := by
  simp [aiaddr, h, hg]
def isWordB (s : List UInt8) : Bool := decide (s ∈ wordsL)
/-- Is it a name? -/
def isNameB (s : List UInt8) : Bool := !s.isEmpty && (s.head?.map isLow).getD false && decide (runB isInName s = s.length) && !isWordB s
/-! ### Numbers -/
end
end Go.Proofs.Eng
/- Strings' texts, run by the engine. -/
set_option linter.unusedVariables false
set_option linter.unusedSimpArgs false
set_option maxRecDepth 100000
namespace Go.Proofs.Eng
open Go
section
variable {Γ : Sums} {A : Tab} {N : Nat → Nat}

theorem Row.push {e e' : TypeId} {sz bytes : Nat} {x y : AV} {es : List AV} {os r : List (Nat × AObj)} {H0 H : Hp} (h : Row e sz x es os) (hl : Loc H0 H (os ++ r)) (hb : (es.length + 1) * bytes ≤ roomMax) (hg : (y.good && y.cells.length == sz) = true) :
    asElems (halloc H (.arr sz [y] e')) (.ra sz H.l.length 0 1) = some [y] ∧
    ∃ v H' os', appendOn (halloc H (.arr sz [y] e')) e sz bytes x [y] = some (v, some H') ∧ Row e sz v (es ++ [y]) os' ∧ Loc H0 H' (os' ++ r) := by
  refine ⟨by simp [asElems], ?_⟩
  have hL1 := (hl.alloc (.arr sz [y] e')).perm (os' := os ++ (H.l.length, .arr sz [y] e') :: r) List.perm_middle.symm
  obtain ⟨v, H', os', a1, a2, a3⟩ := h.append (bytes := bytes) (ys := [y]) hL1 (by simp) (by simpa using hb) (by simpa using hg)
  refine ⟨v, H', os', a1, a2, a3.sub (List.Sublist.append (List.Sublist.refl _) ((List.Sublist.refl _).cons _))⟩

end
end Go.Proofs.Eng
/- The tree's small functions, run by the engine: what terms and types ask for. -/
set_option linter.unusedVariables false
set_option linter.unusedSimpArgs false
set_option maxRecDepth 100000
namespace Go.Proofs.Eng
open Go
@[simp high] theorem aeq_strM {a b : List UInt8} : aeq .pstr (.lit (.string (mkS a))) (.lit (.string (mkS b))) = some (decide (a = b)) := by rw [aeq_str]; rfl
section
variable {Γ : Sums} {A : Tab} {N : Nat → Nat}

/-! ### Any of a row -/
theorem indexFunc_call {f : FuncId} (h : Has Γ A f (C_slices_IndexFunc_sl_string_string N)) {H : Hp} {x fv : AV} {es : List AV} (p : AV → Bool) (hx : Vw H 1 x es) (hone : ∀ e ∈ es, e.good = true ∧ e.cells = [e])
    (hp : ∀ e ∈ es, callV (lim Γ A) fv [e] { l := H.l, d := none } = some (avBool (p e), none)) (hl : es.length < 2 ^ 62) : ∃ r : Int, (lim Γ A).call f [x, fv] H = some (avInt .i64 r, none) ∧ decide (0 ≤ r) = es.any p := by
  obtain ⟨R, hR⟩ : ∃ R : AV × Option Hp → Prop, R = fun r => ∃ n : Int, r = (avInt .i64 n, none) ∧ decide (0 ≤ n) = es.any p := ⟨_, rfl⟩
  suffices ∃ r, (lim Γ A).call f [x, fv] H = some r ∧ R r by
    obtain ⟨r, e, hr⟩ := this
    rw [hR] at hr
    obtain ⟨n, rfl, hn⟩ := hr
    exact ⟨n, e, hn⟩
  have hlen := hx.len
  apply h.callP (by rfl)
  simp [C_slices_IndexFunc_sl_string_string, hlen, -Int.natCast_add]
  refine wp_round (fun k ρ H' => H' = { l := H.l, d := none } ∧ ∃ i : Nat, ρ 0 = x ∧ ρ 1 = fv ∧ ρ 7 = avInt .i64 es.length ∧ ρ 8 = avInt .i64 i ∧ i ≤ es.length ∧ (es.take i).any p = false ∧ k = es.length - i) (n := es.length) ⟨rfl, 0, rfl, rfl, rfl, rfl, by omega, by simp, rfl⟩ ?_
  rintro k ρ H' ⟨rfl, i, r0, r1, r7, r8, hi, ha, rfl⟩
  by_cases hlt : i < es.length
  · have hlt' : (i : Int) < es.length := by omega
    have hm := List.getElem_mem hlt
    obtain ⟨q, q1, q2⟩ := (hx.dd none).at' (k := .i64) (i := (i : Int)) (e := es[i]) (by omega) (by simp [List.getElem?_eq_getElem hlt]) (hone _ hm).1 rfl (hone _ hm).2
    have q3 := hp _ hm
    have hw : IntKind.wrap .i64 ((i : Int) + 1) = ((i + 1 : Nat) : Int) := by rw [wrap64 (by omega) (by omega)]; omega
    have htk : (es.take (i + 1)).any p = p es[i] := by rw [List.take_succ_eq_append_getElem hlt, List.any_append, ha]; simp
    have hsp : es.any p = (p es[i] || (es.drop (i + 1)).any p) := by
      conv => lhs; rw [← List.take_append_drop (i + 1) es]
      rw [List.any_append, htk]
    generalize es[i] = e at *
    cases hc : p e
    · rw [hc] at q3 htk
      simp [L_slices_IndexFunc_sl_string_string_1, r0, r1, r7, r8, hlt', q1, q2, q3, hw, -Int.natCast_add]
      refine ⟨es.length - (i + 1), by omega, i + 1, rfl, by omega, ?_, rfl⟩
      simpa using htk
    · rw [hc] at q3 hsp
      have fin : R (avInt .i64 (i : Int), none) := by rw [hR]; exact ⟨i, rfl, by rw [hsp]; simp⟩
      simp [L_slices_IndexFunc_sl_string_string_1, r0, r1, r7, r8, hlt', q1, q2, q3, hw, -Int.natCast_add]
      exact fin
  · have hlt' : ¬ (i : Int) < es.length := by omega
    have ha2 : es.any p = false := by rw [← ha, List.take_of_length_le (by omega)]
    have fin : R (avInt .i64 (-1), none) := by rw [hR]; exact ⟨-1, rfl, by rw [ha2]; rfl⟩
    simp [L_slices_IndexFunc_sl_string_string_1, K_slices_IndexFunc_sl_string_string_1, r0, r1, r7, r8, hlt']
    exact fin

/-! ### What a kind asks for -/
/-! ### Texts -/
end
end Go.Proofs.Eng
/- The store's functions: what they answer, and what they write. -/
set_option linter.unusedVariables false
set_option linter.unusedSimpArgs false
set_option maxRecDepth 100000
namespace Go.Proofs.Eng
open Go
section
variable {Γ : Sums} {A : Tab} {N : Nat → Nat}

theorem aeq_sl {sz : Nat} {xs : List AV} : aeq .pslice (.sl sz xs) (.lit (.slice none 0 0)) = some false := _root_.id rfl
theorem aeq_ra {a b c d : Nat} : aeq .pslice (.ra a b c d) (.lit (.slice none 0 0)) = some false := _root_.id rfl
theorem aeq_nilS : aeq .pslice (.lit (.slice none 0 0)) (.lit (.slice none 0 0)) = some true := _root_.id rfl

theorem appendOn_ra {H : Hp} {e : TypeId} {sz bytes id : Nat} {es ys : List AV} (h : hget H id = some (.arr sz es e)) (hb : (es.length + ys.length) * bytes ≤ roomMax) (hg : ys.all (fun y => y.good && y.cells.length == sz) = true) :
    appendOn H e sz bytes (.ra sz id 0 es.length) ys = some (.ra sz H.l.length 0 (es.length + ys.length), some (halloc (hset H id none) (.arr sz (es ++ ys) e))) := by
  simp only [appendOn, h]
  rw [if_pos ⟨trivial, trivial, by omega, hb, hg⟩]
  simp

/-- What a call lays: a row of bytes of its own. -/
structure Fresh (H : Hp) (g : Option Hp) (c : AV) (es : List AV) (e : TypeId) (os : List (Nat × AObj)) : Prop where
  row : Row e 1 c es os
  wr : Mut H (g.getD H) []
  has : ∀ q ∈ os, hget (g.getD H) q.1 = some q.2 ∧ H.l.length ≤ q.1

/-- A store, laid in a heap. -/
structure St (H : Hp) (t : TypeId) (p m turn : Nat) (l : List (List UInt8 × AV)) : Prop where
  cell : hget H p = some (.cells [.map m, avInt .i64 turn] t)
  mp : ∃ es clk, hget H m = some (.map es clk) ∧ SKeys es ∧ KV es = l
theorem St.dd {H : Hp} {t : TypeId} {p m turn : Nat} {l : List (List UInt8 × AV)} (h : St H t p m turn l) (d : Option Nat) : St { l := H.l, d := d } t p m turn l := ⟨h.cell, h.mp⟩
theorem St.ne {H : Hp} {t : TypeId} {p m turn : Nat} {l : List (List UInt8 × AV)} (h : St H t p m turn l) : p ≠ m := by
  rintro rfl
  obtain ⟨es, clk, h1, _⟩ := h.mp
  rw [h.cell] at h1
  cases h1

@[simp] theorem isRef_ptr {a b : Nat} : (AV.ptr a b).isRef = true := rfl
@[simp] theorem aeq_ptr {a b : Nat} : aeq .pptr (.ptr a b) (.lit (.pointer none)) = some false := _root_.id rfl
theorem _root_.Go.Proofs.Eng.Mut.keeps {H H' : Hp} (h : Mut H H' []) (hd : H.d = none) : Eng.keeps H H' = true := by
  unfold Eng.keeps
  cases hm : H'.d with
  | none => rfl
  | some m =>
    rcases h.d m hm with ⟨k, hk, _⟩ | hk | ⟨i, hi, _⟩
    · rw [hd] at hk; cases hk
    · simpa using hk
    · simp at hi
theorem hset_wrote {H H' : Hp} {i : Nat} {o : Option AObj} (h : i < H.l.length) : ∃ m, (hset H' i o).d = some m ∧ m < H.l.length := by
  rw [hset_d]
  cases H'.d with
  | none => exact ⟨i, rfl, h⟩
  | some k => exact ⟨min k i, rfl, by omega⟩
end
end Go.Proofs.Eng
/- slices.Compact of a row of texts of the program's own. -/
set_option linter.unusedVariables false
set_option linter.unusedSimpArgs false
set_option maxRecDepth 100000
namespace Go.Proofs.Eng
open Go
section
variable {Γ : Sums} {A : Tab} {N : Nat → Nat}
theorem aiaddr_ra0 {sz id off n i : Nat} (h : i < n) : aiaddr sz (.ra sz id off n) (avInt .i64 (i : Int)) = some (.ep id (off + i) 0) := by simp [aiaddr, h]
theorem aiaddr_ra00 {sz id n i : Nat} (h : i < n) : aiaddr sz (.ra sz id 0 n) (avInt .i64 (i : Int)) = some (.ep id i 0) := by simp [aiaddr, h]
theorem aload_ep1 {H : Hp} {id i : Nat} {es : List AV} {t : TypeId} {s : Bs} (h : hget H id = some (.arr 1 es t)) (hi : es[i]? = some (avStr s)) : aload H none (.ep id i 0) = some (avStr s) := by simp [aload, h, hi, loadC]
theorem astore_ep1 {H : Hp} {id i : Nat} {es : List AV} {t : TypeId} {s : Bs} (h : hget H id = some (.arr 1 es t)) (hi : i < es.length) : astore H 1 (.ep id i 0) (avStr s) = some (hset H id (some (.arr 1 (es.set i (avStr s)) t))) := by simp [astore, h, List.getElem?_eq_getElem hi]
theorem aslice_ra_from {id n k : Nat} (h : k ≤ n) : aslice 1 (.ra 1 id 0 n) (some (avInt .i64 (k : Int))) none = some (.ra 1 id k (n - k)) := by
  simp [aslice, aBound, h]
theorem aslice_ra_upto {id n k : Nat} (h : k ≤ n) : aslice 1 (.ra 1 id 0 n) none (some (avInt .i64 (k : Int))) = some (.ra 1 id 0 k) := by
  simp [aslice, aBound, h]

theorem aClear_ra {K : Hp} {id j n : Nat} {es : List AV} {t : TypeId} {z : AV} (hz : z.good = true) (hc : z.cells.length = 1) (hg : hget K id = some (.arr 1 es t)) (h0 : n ≠ 0) (hl : j + n ≤ es.length) : aClear K 1 z (.ra 1 id j n) = some (some (hset K id (some (.arr 1 (es.take j ++ List.replicate n z ++ es.drop (j + n)) t)))) := by
  simp [aClear, hz, hc, h0, hg, hl]

/-- Before a pair is met. -/
inductive CoI1 (strs : List Bs) (id : Nat) (H0 : Hp) (q : Nat) (ρ : Rho) (H : Hp) : Prop where
  | mk (k : Nat) (h0 : ρ 0 = .ra 1 id 0 strs.length) (h3 : ρ 3 = avInt .i64 (k : Nat)) (hk : 1 ≤ k) (hkn : k ≤ strs.length) (hH : H = H0) (hne : ∀ i, i + 1 < k → strs[i]? ≠ strs[i + 1]?) (hq : q = strs.length - k)
/-- Behind it. -/
inductive CoI2 (strs : List Bs) (id : Nat) (t : TypeId) (k0 : Nat) (H0 : Hp) (q : Nat) (ρ : Rho) (H : Hp) : Prop where
  | mk (k k2 : Nat) (es : List AV) (h0 : ρ 0 = .ra 1 id 0 strs.length) (h4 : ρ 4 = .ra 1 id k0 (strs.length - k0)) (h3 : ρ 3 = avInt .i64 (k : Nat)) (h5 : ρ 5 = avInt .i64 (k2 : Nat)) (hk2 : 1 ≤ k2) (hkn : k0 + k2 ≤ strs.length) (hk : k + 1 ≤ k0 + k2) (hk1 : 1 ≤ k)
      (hM : Mut H0 H [id]) (hg : hget H id = some (.arr 1 es t)) (hel : es.length = strs.length) (hd : (ddB (strs.take (k0 + k2))).length = k) (het : es.take k = (ddB (strs.take (k0 + k2))).map avStr) (hrest : ∀ i, k0 + k2 ≤ i + 1 → es[i]? = (strs.map avStr)[i]?) (hq : q = strs.length - (k0 + k2))

theorem Compact_call (h : Has Γ A (f_slices_Compact_sl_string_string N) (C_slices_Compact_sl_string_string N)) {H : Hp} {id : Nat} {t : TypeId} {strs : List Bs} (hg : hget H id = some (.arr 1 (strs.map avStr) t)) (hl : strs.length < 2 ^ 40) :
    ∃ g es, (lim Γ A).call (f_slices_Compact_sl_string_string N) [.ra 1 id 0 strs.length] H = some (.ra 1 id 0 (ddB strs).length, g) ∧ Mut H (g.getD H) [id] ∧ hget (g.getD H) id = some (.arr 1 es t) ∧ (ddB strs).length ≤ es.length ∧ es.take (ddB strs).length = (ddB strs).map avStr := by
  obtain ⟨R, hR⟩ : ∃ R : AV × Option Hp → Prop, R = fun r => r.1 = .ra 1 id 0 (ddB strs).length ∧ ∃ es, Mut H (r.2.getD H) [id] ∧ hget (r.2.getD H) id = some (.arr 1 es t) ∧ (ddB strs).length ≤ es.length ∧ es.take (ddB strs).length = (ddB strs).map avStr := ⟨_, rfl⟩
  suffices ∃ r, (lim Γ A).call (f_slices_Compact_sl_string_string N) [.ra 1 id 0 strs.length] H = some r ∧ R r by
    obtain ⟨⟨v, g⟩, e, hr⟩ := this
    rw [hR] at hr
    obtain ⟨rfl, es, r1, r2, r3, r4⟩ := hr
    exact ⟨g, es, e, r1, r2, r3, r4⟩
  have hlt := hget_lt hg
  have hltH := hget_lt hg
  have hid : (AV.ra 1 id 0 (ddB strs).length).under H.l.length = true := by simp [AV.under, hlt]
  -- what comes back unchanged
  have same : ddB strs = strs → R (settle H (.ra 1 id 0 strs.length) { l := H.l, d := none }) := fun e => by
    rw [settle_keeps rfl (by simp [AV.under, hlt]), hR]
    refine ⟨by rw [e], _, Mut.refl _ _, hg, by rw [e]; simp, by rw [e]; rw [List.take_of_length_le (by simp)]⟩
  have sameA : ddB strs = strs → R (AV.ra 1 id 0 strs.length, none) := fun e => by
    have := same e
    rwa [settle_keeps rfl (by simp [AV.under, hlt])] at this
  apply h.callP (by rfl)
  by_cases c1 : strs.length < 2
  · have c1' : (strs.length : Int) < 2 := by omega
    have hs : ddB strs = strs := ddB_id fun i hi => by omega
    simp [C_slices_Compact_sl_string_string, c1, c1', hlt]
    first | exact sameA hs | exact same hs
  have c1' : ¬ (strs.length : Int) < 2 := by omega
  simp [C_slices_Compact_sl_string_string, c1, c1']
  refine wp_round (n := strs.length - 1) (CoI1 strs id { l := H.l, d := none }) ?_ ?_
  · exact ⟨1, rfl, rfl, by omega, by omega, rfl, fun i hi => by omega, rfl⟩
  · rintro q ρ H' ⟨k, h0, h3, hk, hkn, rfl, hne, rfl⟩
    by_cases hlt : k < strs.length
    · have hlt' : (k : Int) < strs.length := by omega
      have hg0 : hget { l := H.l, d := none } id = some (.arr 1 (strs.map avStr) t) := hg
      have i1 := aiaddr_ra00 (sz := 1) (id := id) hlt
      have hk1 : k - 1 < strs.length := by omega
      have i2 := aiaddr_ra00 (sz := 1) (id := id) hk1
      have hw1 : IntKind.wrap .i64 ((k : Int) - 1) = ((k - 1 : Nat) : Int) := by rw [wrap64 (by omega) (by omega)]; omega
      have l1 := aload_ep1 hg0 (i := k) (s := strs[k]) (by simp [List.getElem?_eq_getElem hlt])
      have l2 := aload_ep1 hg0 (i := k - 1) (s := strs[k - 1]) (by simp [List.getElem?_eq_getElem hk1])
      have hw2 : IntKind.wrap .i64 ((k : Int) + 1) = ((k + 1 : Nat) : Int) := by rw [wrap64 (by omega) (by omega)]; omega
      by_cases he : strs[k] = strs[k - 1]
      · have f1 := aslice_ra_from (id := id) (Nat.le_of_lt hlt)
        have hkl : strs[k - 1]? = some strs[k] := by rw [List.getElem?_eq_getElem hk1, he]
        have htk : ddB (strs.take k) = strs.take k := ddB_id fun i hi => by
          simp only [List.length_take] at hi
          rw [List.getElem?_take, List.getElem?_take, if_pos (by omega), if_pos (by omega)]
          exact hne i (by omega)
        have hd1 : ddB (strs.take (k + 1)) = strs.take k := by
          rw [List.take_succ_eq_append_getElem hlt, ddB_snoc, if_pos, htk]
          rw [List.getLast?_take, if_neg (by omega)]
          simp [hkl]
        simp [L_slices_Compact_sl_string_string_1, h0, h3, hlt', i1, i2, hw1, l1, l2, he, f1]
        refine wp_round (n := strs.length - (k + 1)) (CoI2 strs id t k { l := H.l, d := none }) ?_ ?_
        · refine ⟨k, 1, strs.map avStr, h0, rfl, h3, rfl, by omega, by omega, by omega, by omega, Mut.refl _ _, hg, by simp, ?_, ?_, fun _ _ => rfl, rfl⟩
          · rw [hd1]; simp; omega
          · rw [hd1, List.map_take]
        · rintro q ρ K ⟨j, k2, es, h0, h4, h3, h5, hk2, hkn2, hj, hj1, hM, hgK, hel, hdl, het, hrest, rfl⟩
          have hltK := hget_lt hgK
          by_cases hlt2 : k + k2 < strs.length
          · have c2 : (k2 : Int) < ((strs.length - k : Nat) : Int) := by omega
            have j1 : k2 < strs.length - k := by omega
            have j2 : k2 - 1 < strs.length - k := by omega
            have i1 := aiaddr_ra0 (sz := 1) (id := id) (off := k) j1
            have i2 := aiaddr_ra0 (sz := 1) (id := id) (off := k) j2
            have e1 : es[k + k2]? = some (avStr strs[k + k2]) := by rw [hrest _ (by omega)]; simp [List.getElem?_eq_getElem hlt2]
            have hltp : k + (k2 - 1) < strs.length := by omega
            have e2 : es[k + (k2 - 1)]? = some (avStr strs[k + (k2 - 1)]) := by rw [hrest _ (by omega)]; simp [List.getElem?_eq_getElem hltp]
            have l1 := aload_ep1 hgK e1
            have l2 := aload_ep1 hgK e2
            have w1 : IntKind.wrap .i64 ((k2 : Int) - 1) = ((k2 - 1 : Nat) : Int) := by rw [wrap64 (by omega) (by omega)]; omega
            have w2 : IntKind.wrap .i64 ((k2 : Int) + 1) = ((k2 + 1 : Nat) : Int) := by rw [wrap64 (by omega) (by omega)]; omega
            have w3 : IntKind.wrap .i64 ((j : Int) + 1) = ((j + 1 : Nat) : Int) := by rw [wrap64 (by omega) (by omega)]; omega
            have hlast : (strs.take (k + k2)).getLast? = some strs[k + (k2 - 1)] := by
              rw [List.getLast?_take, if_neg (by omega), show k + k2 - 1 = k + (k2 - 1) by omega, List.getElem?_eq_getElem hltp]
              rfl
            have hsn : ddB (strs.take (k + (k2 + 1))) = if strs[k + (k2 - 1)] = strs[k + k2] then ddB (strs.take (k + k2)) else ddB (strs.take (k + k2)) ++ [strs[k + k2]] := by
              rw [show k + (k2 + 1) = k + k2 + 1 by omega, List.take_succ_eq_append_getElem hlt2, ddB_snoc, hlast]
              simp only [Option.some.injEq]
            by_cases he2 : strs[k + k2] = strs[k + (k2 - 1)]
            · rw [if_pos he2.symm] at hsn
              simp [L_slices_Compact_sl_string_string_2, h0, h3, h4, h5, c2, i1, i2, w1, w2, l1, l2, he2, -Int.natCast_add]
              exact ⟨strs.length - (k + (k2 + 1)), by omega, ⟨j, k2 + 1, es, h0, h4, h3, rfl, by omega, by omega, by omega, hj1, hM, hgK, hel, by rw [hsn]; exact hdl, by rw [hsn]; exact het, fun i hi => hrest i (by omega), rfl⟩⟩
            · rw [if_neg (fun e => he2 e.symm)] at hsn
              have hjn : j < strs.length := by omega
              have i3 := aiaddr_ra00 (sz := 1) (id := id) hjn
              have s3 := astore_ep1 hgK (i := j) (s := strs[k + k2]) (by omega)
              simp [L_slices_Compact_sl_string_string_2, h0, h3, h4, h5, c2, i1, i2, i3, w1, w2, w3, l1, l2, s3, he2, -hset_d, -Int.natCast_add]
              refine ⟨strs.length - (k + (k2 + 1)), by omega, ⟨j + 1, k2 + 1, es.set j (avStr strs[k + k2]), h0, h4, rfl, rfl, by omega, by omega, by omega, by omega, hM.set (.inl (by simp)), by rw [hget_hset, if_pos rfl, if_pos hltK], by simpa using hel, by rw [hsn]; simp [hdl], ?_, fun i hi => ?_, rfl⟩⟩
              · rw [hsn, List.map_append, ← het]
                apply List.ext_getElem?
                intro i
                rw [List.getElem?_take]
                have hjl : (es.take j).length = j := by simp; omega
                by_cases hij : i < j
                · rw [if_pos (by omega), List.getElem?_append_left (by omega), List.getElem?_set_ne (by omega), List.getElem?_take, if_pos hij]
                · by_cases hij2 : i = j
                  · subst hij2
                    rw [if_pos (by omega), List.getElem?_append_right (by omega), hjl, List.getElem?_set_self (by omega)]
                    simp
                  · rw [if_neg (by omega), List.getElem?_eq_none (by simp [hjl]; omega)]
              · rw [List.getElem?_set_ne (by omega)]
                exact hrest i (by omega)
          · have hkk : k + k2 = strs.length := by omega
            have c2 : ¬ (k2 : Int) < ((strs.length - k : Nat) : Int) := by omega
            rw [hkk, List.take_length] at hdl het
            have f1 := aslice_ra_from (id := id) (n := strs.length) (k := j) (by omega)
            have f2 := aslice_ra_upto (id := id) (n := strs.length) (k := j) (by omega)
            have f3 : aClear K 1 (.lit (.string (mkS []))) (.ra 1 id j (strs.length - j)) = some (some (hset K id (some (.arr 1 (es.take j ++ List.replicate (strs.length - j) (avStr []) ++ es.drop (j + (strs.length - j))) t)))) := by
              exact aClear_ra rfl rfl hgK (by omega) (by omega)
            simp [L_slices_Compact_sl_string_string_2, K_slices_Compact_sl_string_string_1, h0, h3, h4, h5, c2, f1, f2, f3, -hset_d]
            rw [settle_wrote (hset_wrote hltH), hR]
            have hm2 := (hM.set (i := id) (o := some (.arr 1 (es.take j ++ (List.replicate (strs.length - j) (avStr []) ++ es.drop (j + (strs.length - j)))) t)) (.inl (by simp))).settled
            refine ⟨by rw [hdl], es.take j ++ (List.replicate (strs.length - j) (avStr []) ++ es.drop (j + (strs.length - j))), hm2, ?_, ?_, ?_⟩
            · simp only [Option.getD_some]
              rw [hget_l, hget_hset, if_pos rfl, if_pos hltK]
            · rw [hdl]
              simp only [List.length_append, List.length_take, List.length_replicate]
              omega
            · rw [hdl, List.take_append_of_le_length (by simp; omega), List.take_of_length_le (by simp; omega)]
              exact het
      · simp [L_slices_Compact_sl_string_string_1, K_slices_Compact_sl_string_string_2, h0, h3, hlt', i1, i2, hw1, hw2, l1, l2, he, -Int.natCast_add]
        refine ⟨strs.length - (k + 1), by omega, ⟨k + 1, h0, rfl, by omega, by omega, rfl, fun i hi => ?_, rfl⟩⟩
        by_cases hik : i + 1 < k
        · exact hne i hik
        · have : i = k - 1 := by omega
          subst this
          rw [show k - 1 + 1 = k by omega, List.getElem?_eq_getElem hlt, List.getElem?_eq_getElem hk1]
          simpa using fun e => he e.symm
    · have hkn2 : k = strs.length := by omega
      subst hkn2
      have hs : ddB strs = strs := ddB_id fun i hi => hne i hi
      simp [L_slices_Compact_sl_string_string_1, K_slices_Compact_sl_string_string_3, h0, h3, hltH]
      first | exact sameA hs | exact same hs
end
end Go.Proofs.Eng
/- Is it a name? What package lexer needs for that alone. -/
set_option linter.unusedVariables false
set_option linter.unusedSimpArgs false
set_option maxRecDepth 100000
namespace Go.Proofs.Eng
open Go
section
variable {Γ : Sums} {A : Tab} {N : Nat → Nat}
structure LexN (Γ : Sums) (A : Tab) (N : Nat → Nat) : Prop where
  low : Has Γ A (f_lexer_low N) (C_lexer_low N)
  digit : Has Γ A (f_lexer_digit N) (C_lexer_digit N)
  inName : Has Γ A (f_lexer_inName N) (C_lexer_inName N)
  run : Has Γ A (f_lexer_run N) (C_lexer_run N)
  words : Has Γ A (f_lexer_words N) (C_lexer_words N)
  contains : Has Γ A (f_slices_Contains_sl_string_string N) (C_slices_Contains_sl_string_string N)
  index : Has Γ A (f_slices_Index_sl_string_string N) (C_slices_Index_sl_string_string N)
  isWord : Has Γ A (f_lexer_IsWord N) (C_lexer_IsWord N)
  isName : Has Γ A (f_lexer_IsName N) (C_lexer_IsName N)
theorem lexN_low_call (h : LexN Γ A N) (c : UInt8) (H : Hp) : (lim Γ A).call (f_lexer_low N) [avByte c] H = some (avBool (isLow c), none) := by
  apply h.low.call (by rfl)
  unfold isLow
  by_cases h1 : 97 ≤ c.toNat
  · have h1' : (97 : Int) ≤ c.toNat := by omega
    by_cases h2 : c.toNat ≤ 122
    · have h2' : (c.toNat : Int) ≤ 122 := by omega
      simp [C_lexer_low, avByte, h1, h1', h2, h2']
    · have h2' : ¬ (c.toNat : Int) ≤ 122 := by omega
      have h3 : ¬ c.toNat = 95 := by omega
      have h3' : ¬ (c.toNat : Int) = 95 := by omega
      simp [C_lexer_low, avByte, h1, h1', h2, h2', h3, h3']
  · have h1' : ¬ (97 : Int) ≤ c.toNat := by omega
    by_cases h3 : c.toNat = 95
    · have h3' : (c.toNat : Int) = 95 := by omega
      simp [C_lexer_low, avByte, h3, h3']
    · have h3' : ¬ (c.toNat : Int) = 95 := by omega
      simp [C_lexer_low, avByte, h1, h1', h3, h3']
theorem lexN_digit_call (h : LexN Γ A N) (c : UInt8) (H : Hp) : (lim Γ A).call (f_lexer_digit N) [avByte c] H = some (avBool (isDigit c), none) := by
  apply h.digit.call (by rfl)
  unfold isDigit
  by_cases h1 : 48 ≤ c.toNat
  · have h1' : (48 : Int) ≤ c.toNat := by omega
    by_cases h2 : c.toNat ≤ 57
    · have h2' : (c.toNat : Int) ≤ 57 := by omega
      simp [C_lexer_digit, avByte, h1, h1', h2, h2']
    · have h2' : ¬ (c.toNat : Int) ≤ 57 := by omega
      simp [C_lexer_digit, avByte, h1, h1', h2, h2']
  · have h1' : ¬ (48 : Int) ≤ c.toNat := by omega
    simp [C_lexer_digit, avByte, h1, h1']
theorem lexN_inName_call (h : LexN Γ A N) (c : UInt8) (H : Hp) : (lim Γ A).call (f_lexer_inName N) [avByte c] H = some (avBool (isInName c), none) := by
  apply h.inName.call (by rfl)
  unfold isInName
  have e1 := lexN_low_call h c
  have e2 := lexN_digit_call h c
  cases h1 : isLow c <;> rw [h1] at e1 <;> simp [C_lexer_inName, e1, e2]
theorem lexN_run_call (h : LexN Γ A N) {g : FuncId} {p : UInt8 → Bool} (hp : ∀ c H, (lim Γ A).call g [avByte c] H = some (avBool (p c), none)) (s : List UInt8) (hs : s.length < 2 ^ 40) (H : Hp) :
    (lim Γ A).call (f_lexer_run N) [avStr s, .fn g [] []] H = some (avInt .i64 (runB p s : Nat), none) := by
  apply h.run.call (by rfl)
  simp [C_lexer_run, -Int.natCast_add]
  refine wp_round (fun k ρ H' => H' = { l := H.l, d := none } ∧ ∃ i : Nat, ρ 0 = avStr s ∧ ρ 1 = .fn g [] [] ∧ ρ 5 = avInt .i64 i ∧ i ≤ s.length ∧ (s.take i).all p = true ∧ k = s.length - i) (n := s.length) ⟨rfl, 0, rfl, rfl, rfl, by omega, by simp, rfl⟩ ?_
  rintro k ρ H' ⟨rfl, i, h0, h1, h5, hi, ha, rfl⟩
  have hrd := runB_drop p s i ha hi
  by_cases hl : i < s.length
  · have hl' : (i : Int) < s.length := by omega
    have hx := asidx_nat (k := .i64) hl
    have hd : s.drop i = s[i] :: s.drop (i + 1) := List.drop_eq_getElem_cons hl
    cases hc : p s[i]
    · have e := hp s[i]
      rw [hc] at e
      have : runB p s = i := by rw [hrd, hd, runB_stop hc]; omega
      simp [L_lexer_run_1, K_lexer_run_1, h0, h1, h5, hl', hx, e, this]
    · have e := hp s[i]
      rw [hc] at e
      have hw : IntKind.wrap .i64 ((i : Int) + 1) = ((i + 1 : Nat) : Int) := by rw [wrap64 (by omega) (by omega)]; omega
      simp [L_lexer_run_1, h0, h1, h5, hl', hx, e, hw, -Int.natCast_add]
      refine ⟨_, ?_, i + 1, rfl, by omega, ?_, rfl⟩
      · omega
      · have ha2 : (s.take (i + 1)).all p = true := by rw [List.take_succ_eq_append_getElem hl, List.all_append, ha]; simp [hc]
        exact List.all_eq_true.1 ha2
  · have hl' : ¬ (i : Int) < s.length := by omega
    have hi' : i = s.length := by omega
    have : runB p s = i := by rw [hrd, List.drop_of_length_le (by omega)]; simp [runB]
    simp [L_lexer_run_1, K_lexer_run_1, h0, h1, h5, hl', this]

theorem lexN_words_call (h : LexN Γ A N) (H : Hp) : (lim Γ A).call (f_lexer_words N) [] H = some (.sl 1 (wordsL.map avStr), none) := by
  apply h.words.call (by rfl)
  simp [C_lexer_words, wordsL]
  exact settleZ_ra rfl rfl (by simp)
theorem lexN_index_call (h : LexN Γ A N) (l : List (List UInt8)) (s : List UInt8) (hl : l.length < 1000) (H : Hp) :
    ∃ i : Int, (lim Γ A).call (f_slices_Index_sl_string_string N) [.sl 1 (l.map avStr), avStr s] H = some (avInt .i64 i, none) ∧ (0 ≤ i ↔ s ∈ l) := by
  obtain ⟨R, hR⟩ : ∃ R : AV × Option Hp → Prop, R = fun r => ∃ i : Int, r = (avInt .i64 i, none) ∧ (0 ≤ i ↔ s ∈ l) := ⟨_, rfl⟩
  have key : ∃ r, (lim Γ A).call (f_slices_Index_sl_string_string N) [.sl 1 (l.map avStr), avStr s] H = some r ∧ R r := by
    apply h.index.callP (by rfl)
    simp [C_slices_Index_sl_string_string, asLen, -Int.natCast_add]
    refine wp_round (fun k ρ H' => H' = { l := H.l, d := none } ∧ ∃ i : Nat, ρ 0 = .sl 1 (l.map avStr) ∧ ρ 1 = avStr s ∧ ρ 7 = avInt .i64 l.length ∧ ρ 8 = avInt .i64 i ∧ i ≤ l.length ∧ (s ∉ l.take i) ∧ k = l.length - i) (n := l.length)
      ⟨rfl, 0, rfl, rfl, by simp, rfl, by omega, by simp, rfl⟩ ?_
    rintro k ρ H' ⟨rfl, i, h0, h1, h7, h8, hi, hn, rfl⟩
    by_cases hlt : i < l.length
    · have hlt' : (i : Int) < l.length := by omega
      have ha := aiaddr_sln (sz := 1) (xs := l.map avStr) (k := .i64) (i := i) (x := avStr l[i]) (by simp [hlt]) rfl
      by_cases he : s = l[i]
      · have hm : s ∈ l := by rw [he]; exact List.getElem_mem hlt
        simp [L_slices_Index_sl_string_string_1, h0, h1, h7, h8, hlt', ha, aload, he]
        rw [hR]
        refine ⟨i, rfl, ?_⟩
        simp [hm]
      · have hw : IntKind.wrap .i64 ((i : Int) + 1) = ((i + 1 : Nat) : Int) := by rw [wrap64 (by omega) (by omega)]; omega
        simp [L_slices_Index_sl_string_string_1, h0, h1, h7, h8, hlt', ha, aload, he, hw, -Int.natCast_add]
        refine ⟨_, ?_, i + 1, rfl, by omega, ?_, rfl⟩
        · omega
        · intro hm
          rw [List.take_succ_eq_append_getElem hlt] at hm
          rcases List.mem_append.1 hm with hm | hm
          · exact hn hm
          · exact he (List.mem_singleton.1 hm)
    · have hlt' : ¬ (i : Int) < l.length := by omega
      have hi' : i = l.length := by omega
      subst hi'
      simp only [List.take_length] at hn
      simp [L_slices_Index_sl_string_string_1, K_slices_Index_sl_string_string_1, h0, h1, h7, h8]
      rw [hR]
      refine ⟨-1, rfl, ?_⟩
      simp [hn]
  obtain ⟨r, e, hr⟩ := key
  rw [hR] at hr
  obtain ⟨i, rfl, hi⟩ := hr
  exact ⟨i, e, hi⟩

theorem lexN_IsWord_call (h : LexN Γ A N) (s : List UInt8) (H : Hp) : (lim Γ A).call (f_lexer_IsWord N) [avStr s] H = some (avBool (isWordB s), none) := by
  apply h.isWord.call (by rfl)
  obtain ⟨i, e1, e2⟩ := lexN_index_call h wordsL s (by decide) { l := H.l, d := none }
  have e3 : (lim Γ A).call (f_slices_Contains_sl_string_string N) [.sl 1 (wordsL.map avStr), avStr s] { l := H.l, d := none } = some (avBool (isWordB s), none) := by
    apply h.contains.call (by rfl)
    simp [C_slices_Contains_sl_string_string, e1, isWordB, e2]
  simp only [C_lexer_IsWord]
  simp [lexN_words_call h, e3]

theorem lexN_IsName_call (h : LexN Γ A N) (s : List UInt8) (hs : s.length < 2 ^ 40) (H : Hp) : (lim Γ A).call (f_lexer_IsName N) [avStr s] H = some (avBool (isNameB s), none) := by
  apply h.isName.call (by rfl)
  unfold isNameB
  cases s with
  | nil => simp [C_lexer_IsName]
  | cons c t =>
    have hx := asidx_nat (k := .i64) (s := c :: t) (i := 0) (by simp)
    simp only [List.getElem_cons_zero, Int.natCast_zero] at hx
    have e1 := lexN_low_call h c
    have e2 := lexN_run_call h (lexN_inName_call h) (c :: t) hs
    have e3 := lexN_IsWord_call h (c :: t)
    cases h1 : isLow c <;> rw [h1] at e1
    · simp [C_lexer_IsName, hx, e1, h1]
    · by_cases h2 : runB isInName (c :: t) = t.length + 1
      · have h2' : (runB isInName (c :: t) : Int) = (t.length : Int) + 1 := by omega
        simp [C_lexer_IsName, hx, e1, h1, e2, e3, h2, h2']
      · have h2' : ¬ (runB isInName (c :: t) : Int) = (t.length : Int) + 1 := by omega
        simp [C_lexer_IsName, hx, e1, h1, e2, e3, h2, h2']
end
end Go.Proofs.Eng
/- Templates of functions, as the engine takes them; numbers of functions and types by names. Printed by tm.py. -/
set_option linter.unusedVariables false
set_option maxRecDepth 100000
namespace Go.Proofs.Eng
open Go

def L_p_deps_Net_Cone_2 (N : Nat → Nat) : AC :=
       .seq (
        .ops [⟨(some 43), .bin .lss (.t 42) (.t 41), none⟩]) (
       .seq (
        .cond (.t 43) (
         .skip) (
         .exit 2)) (
       .seq (
        .block 3 (
         .seq (
          .ops [⟨(some 44), .iaddr 1 (.t 40) (.t 42), none⟩, ⟨(some 45), .load none (.t 44), none⟩, ⟨(some 11), .mov (.t 45), none⟩]) (
         .seq (
          .ops [⟨(some 47), .mov (.t 0), none⟩, ⟨(some 48), .nilchk (.t 47), none⟩, ⟨(some 49), .faddr 0 (.t 48), none⟩, ⟨(some 50), .load none (.t 49), none⟩, ⟨(some 51), .mov (.t 11), none⟩, ⟨(some 52), .lookup .string (.lit (.slice none 0 0)) (.t 50) (.t 51) true, none⟩, ⟨(some 46), .mov (.t 52), none⟩, ⟨(some 53), .extract (.t 46) 0, none⟩, ⟨(some 54), .extract (.t 46) 1, none⟩, ⟨(some 12), .mov (.t 53), none⟩, ⟨(some 13), .mov (.t 54), none⟩]) (
         .seq (
          .ops [⟨(some 55), .mov (.t 13), none⟩, ⟨(some 56), .mov (.t 55), none⟩, ⟨(some 57), .mov (.t 7), (some (56, true))⟩, ⟨(some 58), .mov (.t 11), (some (56, true))⟩, ⟨(some 59), .lookup .string (.lit (.bool false)) (.t 57) (.t 58) false, (some (56, true))⟩, ⟨(some 60), .un .not (.t 59), (some (56, true))⟩, ⟨(some 61), .pick (.t 56) (.t 60) (.c (.lit (.bool false))), none⟩]) (
         .cond (.t 61) (
          .seq (
           .ops [⟨(some 62), .mov (.t 7), none⟩, ⟨(some 63), .mov (.t 11), none⟩, ⟨none, .mapupd .string (.t 62) (.t 63) (.c (.lit (.bool true))), none⟩]) (
          .ops [⟨(some 64), .mov (.t 8), none⟩, ⟨(some 65), .mov (.t 11), none⟩, ⟨(some 66), .bslice (t_string N) 1 none 1 [(.lit (.string (mkS [])))] [(0, 1, (.t 65))], none⟩, ⟨(some 67), .append (t_string N) 1 16 (.t 64) (.t 66), none⟩, ⟨(some 8), .mov (.t 67), none⟩])) (
          .skip)))))) (
       .ops [⟨(some 68), .bin .add (.t 42) (.c (.lit (.int .i64 1))), none⟩, ⟨(some 42), .mov (.t 68), none⟩])))
def L_p_deps_Net_Cone_1 (N : Nat → Nat) : AC :=
    .seq (
     .seq (
      .ops [⟨(some 27), .mov (.t 8), none⟩, ⟨(some 28), .len (.t 27), none⟩, ⟨(some 29), .bin .gtr (.t 28) (.c (.lit (.int .i64 0))), none⟩]) (
     .cond (.t 29) (
      .skip) (
      .exit 0))) (
    .block 1 (
     .seq (
      .ops [⟨(some 30), .mov (.t 8), none⟩, ⟨(some 31), .iaddr 1 (.t 30) (.c (.lit (.int .i64 0))), none⟩, ⟨(some 32), .load none (.t 31), none⟩, ⟨(some 9), .mov (.t 32), none⟩]) (
     .seq (
      .ops [⟨(some 33), .mov (.t 8), none⟩, ⟨(some 34), .slice 1 (.t 33) (some (.c (.lit (.int .i64 1)))) none, none⟩, ⟨(some 8), .mov (.t 34), none⟩]) (
     .seq (
      .ops [⟨(some 35), .mov (.t 0), none⟩, ⟨(some 36), .nilchk (.t 35), none⟩, ⟨(some 37), .faddr 0 (.t 36), none⟩, ⟨(some 38), .load none (.t 37), none⟩, ⟨(some 39), .mov (.t 9), none⟩, ⟨(some 40), .lookup .string (.lit (.slice none 0 0)) (.t 38) (.t 39) false, none⟩, ⟨(some 41), .len (.t 40), none⟩, ⟨(some 42), .mov (.c (.lit (.int .i64 0))), none⟩]) (
     .block 2 (
      .loop (L_p_deps_Net_Cone_2 N)))))))
def K_p_deps_Net_Cone_1 (N : Nat → Nat) : AC :=
 .seq (
  .ops [⟨(some 69), .mov (.t 7), none⟩, ⟨(some 70), .call (.c (.fn (f_maps_Keys_map_string_bool_string_bool N) [] [])) [(.t 69)], none⟩, ⟨(some 71), .call (.c (.fn (f_slices_Sorted_string N) [] [])) [(.t 70)], none⟩, ⟨(some 4), .mov (.t 71), none⟩]) (
 .ret)
/-- (*azimuth/deps.Net).Cone -/
def C_p_deps_Net_Cone (N : Nat → Nat) : AFunc := ⟨72, [.inl 4],
 .seq (
  .ops [⟨(some 4), .mov (.c (.lit (.slice none 0 0))), none⟩]) (
 .seq (
  .seq (
   .ops [⟨(some 15), .mov (.t 0), none⟩, ⟨(some 16), .mov (.t 1), none⟩, ⟨(some 17), .call (.c (.fn (f_p_deps_Net_On N) [] [])) [(.t 15), (.t 16)], none⟩, ⟨(some 14), .mov (.t 17), none⟩, ⟨(some 18), .extract (.t 14) 0, none⟩, ⟨(some 19), .extract (.t 14) 1, none⟩, ⟨(some 5), .mov (.t 18), none⟩, ⟨(some 6), .mov (.t 19), none⟩]) (
  .seq (
   .ops [⟨(some 20), .mov (.t 6), none⟩, ⟨(some 21), .un .not (.t 20), none⟩]) (
  .cond (.t 21) (
   .seq (
    .ops [⟨(some 4), .mov (.c (.lit (.slice none 0 0))), none⟩]) (
   .ret)) (
   .skip)))) (
 .seq (
  .ops [⟨(some 22), .mkmap, none⟩, ⟨(some 23), .mov (.t 1), none⟩, ⟨none, .mapupd .string (.t 22) (.t 23) (.c (.lit (.bool true))), none⟩, ⟨(some 24), .mov (.t 22), none⟩, ⟨(some 7), .mov (.t 24), none⟩]) (
 .seq (
  .seq (
   .ops [⟨(some 25), .mov (.t 1), none⟩, ⟨(some 26), .bslice (t_string N) 1 none 1 [(.lit (.string (mkS [])))] [(0, 1, (.t 25))], none⟩, ⟨(some 8), .mov (.t 26), none⟩]) (
  .block 0 (
   .loop (L_p_deps_Net_Cone_1 N)))) (K_p_deps_Net_Cone_1 N)))), false⟩

def L_p_deps_Net_Missing_2 (N : Nat → Nat) : AC :=
        .seq (
         .ops [⟨(some 26), .bin .lss (.t 25) (.t 24), none⟩]) (
        .seq (
         .cond (.t 26) (
          .skip) (
          .exit 2)) (
        .seq (
         .block 3 (
          .seq (
           .ops [⟨(some 27), .iaddr 1 (.t 23) (.t 25), none⟩, ⟨(some 28), .load none (.t 27), none⟩, ⟨(some 7), .mov (.t 28), none⟩]) (
          .seq (
           .ops [⟨(some 30), .mov (.t 0), none⟩, ⟨(some 31), .nilchk (.t 30), none⟩, ⟨(some 32), .faddr 0 (.t 31), none⟩, ⟨(some 33), .load none (.t 32), none⟩, ⟨(some 34), .mov (.t 7), none⟩, ⟨(some 35), .lookup .string (.lit (.slice none 0 0)) (.t 33) (.t 34) true, none⟩, ⟨(some 29), .mov (.t 35), none⟩, ⟨(some 36), .extract (.t 29) 0, none⟩, ⟨(some 37), .extract (.t 29) 1, none⟩, ⟨(some 8), .mov (.t 36), none⟩, ⟨(some 9), .mov (.t 37), none⟩]) (
          .seq (
           .ops [⟨(some 38), .mov (.t 9), none⟩, ⟨(some 39), .un .not (.t 38), none⟩]) (
          .cond (.t 39) (
           .ops [⟨(some 40), .mov (.t 3), none⟩, ⟨(some 41), .mov (.t 7), none⟩, ⟨none, .mapupd .string (.t 40) (.t 41) (.c (.lit (.bool true))), none⟩]) (
           .skip)))))) (
        .ops [⟨(some 42), .bin .add (.t 25) (.c (.lit (.int .i64 1))), none⟩, ⟨(some 25), .mov (.t 42), none⟩])))
def K_p_deps_Net_Missing_1 (N : Nat → Nat) : AC :=
 .ops [⟨(some 43), .bin .add (.t 14) (.c (.lit (.int .i64 1))), none⟩, ⟨(some 14), .mov (.t 43), none⟩]
def L_p_deps_Net_Missing_1 (N : Nat → Nat) : AC :=
    .seq (
     .ops [⟨(some 15), .bin .lss (.t 14) (.t 13), none⟩]) (
    .seq (
     .cond (.t 15) (
      .skip) (
      .exit 0)) (
    .seq (
     .block 1 (
      .seq (
       .ops [⟨(some 16), .iaddr 1 (.t 12) (.t 14), none⟩, ⟨(some 17), .load none (.t 16), none⟩, ⟨(some 5), .mov (.t 17), none⟩]) (
      .seq (
       .ops [⟨(some 18), .mov (.t 0), none⟩, ⟨(some 19), .nilchk (.t 18), none⟩, ⟨(some 20), .faddr 0 (.t 19), none⟩, ⟨(some 21), .load none (.t 20), none⟩, ⟨(some 22), .mov (.t 5), none⟩, ⟨(some 23), .lookup .string (.lit (.slice none 0 0)) (.t 21) (.t 22) false, none⟩, ⟨(some 24), .len (.t 23), none⟩, ⟨(some 25), .mov (.c (.lit (.int .i64 0))), none⟩]) (
      .block 2 (
       .loop (L_p_deps_Net_Missing_2 N)))))) (K_p_deps_Net_Missing_1 N)))
def K_p_deps_Net_Missing_2 (N : Nat → Nat) : AC :=
 .seq (
  .ops [⟨(some 44), .mov (.t 3), none⟩, ⟨(some 45), .call (.c (.fn (f_maps_Keys_map_string_bool_string_bool N) [] [])) [(.t 44)], none⟩, ⟨(some 46), .call (.c (.fn (f_slices_Sorted_string N) [] [])) [(.t 45)], none⟩, ⟨(some 2), .mov (.t 46), none⟩]) (
 .ret)
/-- (*azimuth/deps.Net).Missing -/
def C_p_deps_Net_Missing (N : Nat → Nat) : AFunc := ⟨47, [.inl 2],
 .seq (
  .ops [⟨(some 2), .mov (.c (.lit (.slice none 0 0))), none⟩]) (
 .seq (
  .ops [⟨(some 10), .mkmap, none⟩, ⟨(some 3), .mov (.t 10), none⟩]) (
 .seq (
  .seq (
   .ops [⟨(some 11), .mov (.t 0), none⟩, ⟨(some 12), .call (.c (.fn (f_p_deps_Net_Names N) [] [])) [(.t 11)], none⟩, ⟨(some 13), .len (.t 12), none⟩, ⟨(some 14), .mov (.c (.lit (.int .i64 0))), none⟩]) (
  .block 0 (
   .loop (L_p_deps_Net_Missing_1 N)))) (K_p_deps_Net_Missing_2 N))), false⟩

/-- (*azimuth/deps.Net).Names -/
def C_p_deps_Net_Names (N : Nat → Nat) : AFunc := ⟨11, [.inl 2],
 .seq (
  .ops [⟨(some 2), .mov (.c (.lit (.slice none 0 0))), none⟩]) (
 .seq (
  .seq (
   .ops [⟨(some 3), .mov (.t 0), none⟩, ⟨(some 4), .eq false .pptr (.t 3) (.c (.lit (.pointer none))), none⟩]) (
  .cond (.t 4) (
   .seq (
    .ops [⟨(some 2), .mov (.c (.lit (.slice none 0 0))), none⟩]) (
   .ret)) (
   .skip))) (
 .seq (
  .ops [⟨(some 5), .mov (.t 0), none⟩, ⟨(some 6), .nilchk (.t 5), none⟩, ⟨(some 7), .faddr 0 (.t 6), none⟩, ⟨(some 8), .load none (.t 7), none⟩, ⟨(some 9), .call (.c (.fn (f_maps_Keys_map_string_sl_string_string_sl_string N) [] [])) [(.t 8)], none⟩, ⟨(some 10), .call (.c (.fn (f_slices_Sorted_string N) [] [])) [(.t 9)], none⟩, ⟨(some 2), .mov (.t 10), none⟩]) (
 .ret))), false⟩

/-- (*azimuth/deps.Net).On -/
def C_p_deps_Net_On (N : Nat → Nat) : AFunc := ⟨22, [.inl 4, .inl 5],
 .seq (
  .ops [⟨(some 4), .mov (.c (.lit (.slice none 0 0))), none⟩, ⟨(some 5), .mov (.c (.lit (.bool false))), none⟩]) (
 .seq (
  .seq (
   .ops [⟨(some 8), .mov (.t 0), none⟩, ⟨(some 9), .eq false .pptr (.t 8) (.c (.lit (.pointer none))), none⟩]) (
  .cond (.t 9) (
   .seq (
    .ops [⟨(some 4), .mov (.c (.lit (.slice none 0 0))), none⟩, ⟨(some 5), .mov (.c (.lit (.bool false))), none⟩]) (
   .ret)) (
   .skip))) (
 .seq (
  .ops [⟨(some 11), .mov (.t 0), none⟩, ⟨(some 12), .nilchk (.t 11), none⟩, ⟨(some 13), .faddr 0 (.t 12), none⟩, ⟨(some 14), .load none (.t 13), none⟩, ⟨(some 15), .mov (.t 1), none⟩, ⟨(some 16), .lookup .string (.lit (.slice none 0 0)) (.t 14) (.t 15) true, none⟩, ⟨(some 10), .mov (.t 16), none⟩, ⟨(some 17), .extract (.t 10) 0, none⟩, ⟨(some 18), .extract (.t 10) 1, none⟩, ⟨(some 6), .mov (.t 17), none⟩, ⟨(some 7), .mov (.t 18), none⟩]) (
 .seq (
  .ops [⟨(some 19), .mov (.t 6), none⟩, ⟨(some 20), .call (.c (.fn (f_slices_Clone_sl_string_string N) [] [])) [(.t 19)], none⟩, ⟨(some 21), .mov (.t 7), none⟩, ⟨(some 4), .mov (.t 20), none⟩, ⟨(some 5), .mov (.t 21), none⟩]) (
 .ret)))), false⟩

/-- (*azimuth/deps.Net).Put -/
def C_p_deps_Net_Put (N : Nat → Nat) : AFunc := ⟨28, [.inl 6],
 .seq (
  .ops [⟨(some 6), .mov (.c (.lit (.int .i64 0))), none⟩]) (
 .seq (
  .seq (
   .ops [⟨(some 8), .mov (.t 0), none⟩, ⟨(some 9), .eq false .pptr (.t 8) (.c (.lit (.pointer none))), none⟩]) (
  .cond (.t 9) (
   .seq (
    .ops [⟨(some 6), .mov (.c (.lit (.int .i64 1))), none⟩]) (
   .ret)) (
   .skip))) (
 .seq (
  .seq (
   .ops [⟨(some 10), .mov (.t 1), none⟩, ⟨(some 11), .call (.c (.fn (f_lexer_IsName N) [] [])) [(.t 10)], none⟩, ⟨(some 12), .un .not (.t 11), none⟩, ⟨(some 13), .mov (.t 12), none⟩, ⟨(some 14), .mov (.t 2), (some (13, false))⟩, ⟨(some 15), .call (.c (.fn (f_slices_ContainsFunc_sl_string_string N) [] [])) [(.t 14), (.c (.fn (f_p_deps_Net_Put_1 N) [] []))], (some (13, false))⟩, ⟨(some 16), .pick (.t 13) (.c (.lit (.bool true))) (.t 15), none⟩]) (
  .cond (.t 16) (
   .seq (
    .ops [⟨(some 6), .mov (.c (.lit (.int .i64 7))), none⟩]) (
   .ret)) (
   .skip))) (
 .seq (
  .ops [⟨(some 17), .mov (.t 2), none⟩, ⟨(some 18), .call (.c (.fn (f_slices_Clone_sl_string_string N) [] [])) [(.t 17)], none⟩, ⟨(some 7), .mov (.t 18), none⟩]) (
 .seq (
  .ops [⟨(some 19), .mov (.t 7), none⟩, ⟨(some 20), .call (.c (.fn (f_slices_Sort_sl_string_string N) [] [])) [(.t 19)], none⟩]) (
 .seq (
  .dops 7 [⟨(some 21), .mov (.t 0), none⟩, ⟨(some 22), .nilchk (.t 21), none⟩, ⟨(some 23), .faddr 0 (.t 22), none⟩, ⟨(some 24), .load none (.t 23), none⟩, ⟨(some 25), .mov (.t 1), none⟩, ⟨(some 26), .mov (.t 7), none⟩, ⟨(some 27), .call (.c (.fn (f_slices_Compact_sl_string_string N) [] [])) [(.t 26)], none⟩, ⟨none, .mapupd .string (.t 24) (.t 25) (.t 27), none⟩] [0, 0, 0, 0, 0, 0, 1, 0] []) (
 .seq (
  .ops [⟨(some 6), .mov (.c (.lit (.int .i64 0))), none⟩]) (
 .ret))))))), false⟩

/-- (*azimuth/deps.Net).Put$1 -/
def C_p_deps_Net_Put_1 (N : Nat → Nat) : AFunc := ⟨6, [.inl 2],
 .seq (
  .ops [⟨(some 2), .mov (.c (.lit (.bool false))), none⟩]) (
 .seq (
  .ops [⟨(some 3), .mov (.t 0), none⟩, ⟨(some 4), .call (.c (.fn (f_lexer_IsName N) [] [])) [(.t 3)], none⟩, ⟨(some 5), .un .not (.t 4), none⟩, ⟨(some 2), .mov (.t 5), none⟩]) (
 .ret)), false⟩

/-- (*azimuth/deps.Net).Users -/
def C_p_deps_Net_Users (N : Nat → Nat) : AFunc := ⟨9, [.inl 4],
 .seq (
  .ops [⟨(some 2), .box (t_p_deps_Net N) (.t 0), none⟩, ⟨(some 3), .box (t_string N) (.t 1), none⟩, ⟨(some 4), .mov (.c (.lit (.slice none 0 0))), none⟩]) (
 .seq (
  .ops [⟨(some 5), .load none (.t 2), none⟩, ⟨(some 6), .call (.c (.fn (f_p_deps_Net_Names N) [] [])) [(.t 5)], none⟩, ⟨(some 7), .mkfn (f_p_deps_Net_Users_1 N) [] [(.t 2), (.t 3)], none⟩, ⟨(some 8), .call (.c (.fn (f_slices_DeleteFunc_sl_string_string N) [] [])) [(.t 6), (.t 7)], none⟩, ⟨(some 4), .mov (.t 8), none⟩]) (
 .ret)), false⟩

/-- (*azimuth/deps.Net).Users$1 -/
def C_p_deps_Net_Users_1 (N : Nat → Nat) : AFunc := ⟨14, [.inl 4],
 .seq (
  .ops [⟨(some 4), .mov (.c (.lit (.bool false))), none⟩]) (
 .seq (
  .dops 1 [⟨(some 5), .load none (.t 1), none⟩, ⟨(some 6), .nilchk (.t 5), none⟩, ⟨(some 7), .faddr 0 (.t 6), none⟩, ⟨(some 8), .load none (.t 7), none⟩, ⟨(some 9), .mov (.t 0), none⟩, ⟨(some 10), .lookup .string (.lit (.slice none 0 0)) (.t 8) (.t 9) false, none⟩, ⟨(some 11), .load none (.t 2), none⟩, ⟨(some 12), .call (.c (.fn (f_slices_Contains_sl_string_string N) [] [])) [(.t 10), (.t 11)], none⟩, ⟨(some 13), .un .not (.t 12), none⟩, ⟨(some 4), .mov (.t 13), none⟩] [2, 0, 0, 2, 0, 2, 2, 0, 0, 0] []) (
 .ret)), false⟩

/-- azimuth/deps.New -/
def C_deps_New (N : Nat → Nat) : AFunc := ⟨4, [.inl 0],
 .seq (
  .ops [⟨(some 0), .mov (.c (.lit (.pointer none))), none⟩]) (
 .seq (
  .ops [⟨(some 1), .mkmap, none⟩, ⟨(some 2), .build [(.lit (.map none))] [(0, 1, (.t 1))], none⟩, ⟨(some 3), .box (t_deps_Net N) (.t 2), none⟩, ⟨(some 0), .mov (.t 3), none⟩]) (
 .ret)), false⟩

end Go.Proofs.Eng
/- Templates of functions, as the engine takes them; numbers of functions and types by names. Printed by tm.py. -/
set_option linter.unusedVariables false
set_option maxRecDepth 100000
namespace Go.Proofs.Eng
open Go

/-- maps.Keys[map[string][]string,string,[]string] -/
def C_maps_Keys_map_string_sl_string_string_sl_string (N : Nat → Nat) : AFunc := ⟨4, [.inl 2],
 .seq (
  .ops [⟨(some 1), .box (t_map_string_sl_string N) (.t 0), none⟩, ⟨(some 2), .mov (.c (.lit .nilFunc)), none⟩]) (
 .seq (
  .ops [⟨(some 3), .mkfn (f_maps_Keys_map_string_sl_string_string_sl_string_1 N) [] [(.t 1)], none⟩, ⟨(some 2), .mov (.t 3), none⟩]) (
 .ret)), false⟩

/-- maps.Keys[map[string]bool,string,bool] -/
def C_maps_Keys_map_string_bool_string_bool (N : Nat → Nat) : AFunc := ⟨4, [.inl 2],
 .seq (
  .ops [⟨(some 1), .box (t_map_string_bool N) (.t 0), none⟩, ⟨(some 2), .mov (.c (.lit .nilFunc)), none⟩]) (
 .seq (
  .ops [⟨(some 3), .mkfn (f_maps_Keys_map_string_bool_string_bool_1 N) [] [(.t 1)], none⟩, ⟨(some 2), .mov (.t 3), none⟩]) (
 .ret)), false⟩

end Go.Proofs.Eng
/- A function that is run for whatever is drawn, as the engine takes it. Printed by tm.py. -/
set_option linter.unusedVariables false
set_option maxRecDepth 100000
namespace Go.Proofs.Eng
open Go

def DM_p_deps_Net_Put_1 (N : Nat → Nat) : AC :=
   .dops 7 [⟨(some 21), .mov (.t 0), none⟩, ⟨(some 22), .nilchk (.t 21), none⟩, ⟨(some 23), .faddr 0 (.t 22), none⟩, ⟨(some 24), .load none (.t 23), none⟩, ⟨(some 25), .mov (.t 1), none⟩, ⟨(some 26), .mov (.t 7), none⟩, ⟨(some 27), .call (.c (.fn (f_slices_Compact_sl_string_string N) [] [])) [(.t 26)], none⟩, ⟨none, .mapupd .string (.t 24) (.t 25) (.t 27), none⟩] [0, 0, 0, 0, 0, 0, 0, 0] []
def DM_p_deps_Net_Put_2 (N : Nat → Nat) : AC :=
   .dops 7 [⟨(some 21), .mov (.t 0), none⟩, ⟨(some 22), .nilchk (.t 21), none⟩, ⟨(some 23), .faddr 0 (.t 22), none⟩, ⟨(some 25), .mov (.t 1), none⟩, ⟨(some 26), .mov (.t 7), none⟩, ⟨(some 27), .call (.c (.fn (f_slices_Compact_sl_string_string N) [] [])) [(.t 26)], none⟩, ⟨(some 24), .load none (.t 23), none⟩, ⟨none, .mapupd .string (.t 24) (.t 25) (.t 27), none⟩] [0, 0, 0, 0, 0, 0, 0, 0] []
def DK_p_deps_Net_Put_1 (N : Nat → Nat) : DC :=
 .base (
  .seq (
   .ops [⟨(some 6), .mov (.c (.lit (.int .i64 0))), none⟩]) (
  .ret))
def hint_p_deps_Net_Put : Nat → Option AltT := fun k => match k with | 7 => some (.split 3 6 .leaf (.perm [0, 1, 2, 4, 5, 6, 3, 7] [0, 1, 2, 6, 3, 4, 5, 7] .leaf)) | _ => none
/-- (*azimuth/deps.Net).Put -/
def D_p_deps_Net_Put (N : Nat → Nat) : DFunc := ⟨28, [.inl 6],
 .seq (
  .base (
   .ops [⟨(some 6), .mov (.c (.lit (.int .i64 0))), none⟩])) (
 .seq (
  .base (
   .seq (
    .ops [⟨(some 8), .mov (.t 0), none⟩, ⟨(some 9), .eq false .pptr (.t 8) (.c (.lit (.pointer none))), none⟩]) (
   .cond (.t 9) (
    .seq (
     .ops [⟨(some 6), .mov (.c (.lit (.int .i64 1))), none⟩]) (
    .ret)) (
    .skip)))) (
 .seq (
  .base (
   .seq (
    .ops [⟨(some 10), .mov (.t 1), none⟩, ⟨(some 11), .call (.c (.fn (f_lexer_IsName N) [] [])) [(.t 10)], none⟩, ⟨(some 12), .un .not (.t 11), none⟩, ⟨(some 13), .mov (.t 12), none⟩, ⟨(some 14), .mov (.t 2), (some (13, false))⟩, ⟨(some 15), .call (.c (.fn (f_slices_ContainsFunc_sl_string_string N) [] [])) [(.t 14), (.c (.fn (f_p_deps_Net_Put_1 N) [] []))], (some (13, false))⟩, ⟨(some 16), .pick (.t 13) (.c (.lit (.bool true))) (.t 15), none⟩]) (
   .cond (.t 16) (
    .seq (
     .ops [⟨(some 6), .mov (.c (.lit (.int .i64 7))), none⟩]) (
    .ret)) (
    .skip)))) (
 .seq (
  .base (
   .ops [⟨(some 17), .mov (.t 2), none⟩, ⟨(some 18), .call (.c (.fn (f_slices_Clone_sl_string_string N) [] [])) [(.t 17)], none⟩, ⟨(some 7), .mov (.t 18), none⟩])) (
 .seq (
  .base (
   .ops [⟨(some 19), .mov (.t 7), none⟩, ⟨(some 20), .call (.c (.fn (f_slices_Sort_sl_string_string N) [] [])) [(.t 19)], none⟩])) (
 .seq (
  .alts [(DM_p_deps_Net_Put_1 N),
(DM_p_deps_Net_Put_2 N)]) (DK_p_deps_Net_Put_1 N)))))), false⟩
end Go.Proofs.Eng
/- Nets: what is put, run for whatever is drawn. -/
set_option linter.unusedVariables false
set_option linter.unusedSimpArgs false
set_option maxRecDepth 100000
namespace Go.Proofs.Eng
open Go
structure DepC (Γ : Sums) (A : Tab) (N : Nat → Nat) : Prop where
  lex : LexN Γ A N
  isS : Has Γ A (f_slices_IndexFunc_sl_string_string N) (C_slices_IndexFunc_sl_string_string N)
  csS : Has Γ A (f_slices_ContainsFunc_sl_string_string N) (C_slices_ContainsFunc_sl_string_string N)
  clone : Has Γ A (f_slices_Clone_sl_string_string N) (C_slices_Clone_sl_string_string N)
  compact : Has Γ A (f_slices_Compact_sl_string_string N) (C_slices_Compact_sl_string_string N)
  compactNil : ∀ H, (lim Γ A).call (f_slices_Compact_sl_string_string N) [avNilS] H = some (avNilS, none)
  del : Has Γ A (f_slices_DeleteFunc_sl_string_string N) (C_slices_DeleteFunc_sl_string_string N)
  new : Has Γ A (f_deps_New N) (C_deps_New N)
  put1 : Has Γ A (f_p_deps_Net_Put_1 N) (C_p_deps_Net_Put_1 N)
  names : Has Γ A (f_p_deps_Net_Names N) (C_p_deps_Net_Names N)
  on : Has Γ A (f_p_deps_Net_On N) (C_p_deps_Net_On N)
  users : Has Γ A (f_p_deps_Net_Users N) (C_p_deps_Net_Users N)
  users1 : Has Γ A (f_p_deps_Net_Users_1 N) (C_p_deps_Net_Users_1 N)
  cone : Has Γ A (f_p_deps_Net_Cone N) (C_p_deps_Net_Cone N)
  miss : Has Γ A (f_p_deps_Net_Missing N) (C_p_deps_Net_Missing N)
  keysS : Has Γ A (f_maps_Keys_map_string_sl_string_string_sl_string N) (C_maps_Keys_map_string_sl_string_string_sl_string N)
  keysB : Has Γ A (f_maps_Keys_map_string_bool_string_bool N) (C_maps_Keys_map_string_bool_string_bool N)
  sort : ∀ (H : Hp) (id : Nat) (es : List Bs) (t : TypeId), hget H id = some (.arr 1 (es.map avStr) t) → es.length < 2 ^ 40 → (lim Γ A).call (f_slices_Sort_sl_string_string N) [.ra 1 id 0 es.length] H = some (.tup [], some (hset H id (some (.arr 1 ((sortB es).map avStr) t))))
  sortNil : ∀ H, (lim Γ A).call (f_slices_Sort_sl_string_string N) [avNilS] H = some (.tup [], none)
  sortedS : ∀ (H : Hp) (id mid : Nat) (es : MEs) (clk : Nat) (t : TypeId), hget H id = some (.cells [.map mid] t) → hget H mid = some (.map es clk) → SKeys es → (∀ e ∈ KV es, e.1.length ≤ maxLen) → es.length < 2 ^ 36 →
    (lim Γ A).call (f_slices_Sorted_string N) [.fn (f_maps_Keys_map_string_sl_string_string_sl_string_1 N) [] [.ptr id 0]] H = some (sortedR H (t_string N) ((KV es).map Prod.fst))
  sortedB : ∀ (H : Hp) (id mid : Nat) (es : MEs) (clk : Nat) (t : TypeId), hget H id = some (.cells [.map mid] t) → hget H mid = some (.map es clk) → SKeys es → (∀ e ∈ KV es, e.1.length ≤ maxLen) → es.length < 2 ^ 36 →
    (lim Γ A).call (f_slices_Sorted_string N) [.fn (f_maps_Keys_map_string_bool_string_bool_1 N) [] [.ptr id 0]] H = some (sortedR H (t_string N) ((KV es).map Prod.fst))

/-- A net, laid in a heap: no row of it is an object of X. -/
structure NetI (X : Nat → Prop) (H : Hp) (t : TypeId) (p m : Nat) (l : List (Bs × AV)) (f : NF) : Prop where
  cell : hget H p = some (.cells [.map m] t)
  mp : ∃ es clk, hget H m = some (.map es clk) ∧ SKeys es ∧ KV es = l
  nd : (l.map Prod.fst).Nodup
  dom : ∀ k, (aGet k l).isSome = (f k).isSome
  row : ∀ k x on, aGet k l = some x → f k = some on → Vw H 1 x (on.map avStr)
  up : ∀ k on, f k = some on → Up on
  bd : ∀ k on, f k = some on → k.length < 2 ^ 20 ∧ on.length < 2 ^ 20 ∧ ∀ s ∈ on, s.length < 2 ^ 20
  sz : l.length < 2 ^ 20
  nx : ∀ k x, aGet k l = some x → ∀ id off n, x = .ra 1 id off n → ¬ X id
  xl : ∀ i, X i → i < H.l.length
theorem Mut.weaken2 {H H' : Hp} {W V : List Nat} (h : Mut H H' W) (hs : ∀ i ∈ W, i ∈ V) : Mut H H' V := by
  refine ⟨h.len, fun i hi hv => h.old i hi fun hw => hv (hs i hw), fun m hm => ?_⟩
  rcases h.d m hm with h1 | h1 | ⟨i, hi, h1⟩
  · exact .inl h1
  · exact .inr (.inl h1)
  · exact .inr (.inr ⟨i, hs i hi, h1⟩)
section
variable {Γ : Sums} {A : Tab} {N : Nat → Nat} {C : DCalls} {X : Nat → Prop} {H H' : Hp} {t : TypeId} {p m : Nat} {l : List (Bs × AV)} {f : NF}
theorem NetI.ne (h : NetI X H t p m l f) : p ≠ m := by
  rintro rfl
  obtain ⟨es, clk, h1, _⟩ := h.mp
  rw [h.cell] at h1
  cases h1
theorem NetI.lt (h : NetI X H t p m l f) : p < H.l.length ∧ m < H.l.length := by
  obtain ⟨es, clk, h1, _⟩ := h.mp
  exact ⟨hget_lt h.cell, hget_lt h1⟩
theorem NetI.frame (h : NetI X H t p m l f) {W : List Nat} (hW : ∀ i ∈ W, i ≠ p ∧ i ≠ m ∧ (X i ∨ ∀ sz es e, hget H i ≠ some (.arr sz es e))) (k : Mut H H' W) : NetI X H' t p m l f := by
  obtain ⟨es, clk, h1, h2⟩ := h.mp
  refine ⟨k.get' h.cell (fun hp => (hW p hp).1 rfl), ⟨es, clk, k.get' h1 (fun hp => (hW m hp).2.1 rfl), h2⟩, h.nd, h.dom, fun y x on hx hy => ?_, h.up, h.bd, h.sz, h.nx, fun i hi => Nat.lt_of_lt_of_le (h.xl i hi) k.len⟩
  rcases h.row y x on hx hy with hv | ⟨id, off, e, all, h0, hg, hr⟩
  · exact .inl hv
  · refine .inr ⟨id, off, e, all, h0, k.get' hg (fun hw => ?_), hr⟩
    rcases (hW id hw).2.2 with hX | hX
    · exact h.nx y x hx id off _ h0 hX
    · exact hX _ _ _ hg
theorem NetI.still (h : NetI X H t p m l f) (k : Mut H H' []) : NetI X H' t p m l f := h.frame (by simp) k
theorem NetI.dd (h : NetI X H t p m l f) (d : Option Nat) : NetI X { l := H.l, d := d } t p m l f :=
  ⟨h.cell, h.mp, h.nd, h.dom, fun y x on hx hy => (h.row y x on hx hy).dd d, h.up, h.bd, h.sz, h.nx, h.xl⟩
/-- No row is a new object. -/
theorem NetI.new (h : NetI X H t p m l f) : ∀ k x, aGet k l = some x → ∀ id off n, x = .ra 1 id off n → id < H.l.length := by
  intro k x hx id off n e1
  have hd := h.dom k
  rw [hx] at hd
  obtain ⟨on, hon⟩ := Option.isSome_iff_exists.1 hd.symm
  rcases h.row k x on hx hon with hv | ⟨id', off', e', all, h0, hg, hr⟩
  · rcases hv with ⟨hv, _⟩ | hv <;> (rw [e1] at hv; cases hv)
  · rw [e1] at h0
    simp only [AV.ra.injEq] at h0
    rw [h0.2.1]
    exact hget_lt hg
/-- A row more. -/
theorem NetI.put (h : NetI X H t p m l f) {g : Hp} {W : List Nat} {name : Bs} {c : AV} {on : List Bs} {es' : MEs} {clk' : Nat} (k : Mut H g W) (hp : p ∉ W) (hW : ∀ i ∈ W, H.l.length ≤ i ∨ ∀ sz es e, hget H i ≠ some (.arr sz es e)) (hg : hget g m = some (.map es' clk')) (hk : SKeys es') (hv : KV es' = vPut name c l)
    (hc : Vw g 1 c (on.map avStr)) (hu : Up on) (hb : name.length < 2 ^ 20 ∧ on.length < 2 ^ 20 ∧ ∀ s ∈ on, s.length < 2 ^ 20) (hl : l.length + 1 < 2 ^ 20) (hcx : ∀ id off n, c = .ra 1 id off n → H.l.length ≤ id) : NetI X g t p m (vPut name c l) (nPut f name on) := by
  refine ⟨k.get' h.cell hp, ⟨es', clk', hg, hk, hv⟩, keys_nodup_put h.nd, fun y => ?_, fun y x on' hx hy => ?_, fun y on' hy => ?_, fun y on' hy => ?_, Nat.lt_of_le_of_lt keys_len_put hl, fun y x hx id off n e => ?_, fun i hi => Nat.lt_of_lt_of_le (h.xl i hi) k.len⟩
  · rw [aGet_put]
    unfold nPut
    split
    · rfl
    · exact h.dom y
  · rw [aGet_put] at hx
    unfold nPut at hy
    split at hx
    · rename_i e
      rw [if_pos e] at hy
      cases hx; cases hy
      exact hc
    · rename_i e
      rw [if_neg e] at hy
      rcases h.row y x on' hx hy with hv | ⟨id, off, e', all, h0, hgg, hr⟩
      · exact .inl hv
      · refine .inr ⟨id, off, e', all, h0, k.get' hgg (fun hw => ?_), hr⟩
        rcases hW id hw with h1 | h1
        · exact absurd (hget_lt hgg) (by omega)
        · exact h1 _ _ _ hgg
  · unfold nPut at hy
    split at hy
    · cases hy; exact hu
    · exact h.up y on' hy
  · unfold nPut at hy
    split at hy
    · rename_i e; cases hy; subst e; exact hb
    · exact h.bd y on' hy
  · rw [aGet_put] at hx
    split at hx
    · cases hx
      intro hX
      have := h.xl id hX
      have := hcx id off n e
      omega
    · exact h.nx y x hx id off n e

theorem cloneN_call (h : Has Γ A (f_slices_Clone_sl_string_string N) (C_slices_Clone_sl_string_string N)) {x : AV} {b : List (List UInt8)} {H : Hp} (hx : Vw H 1 x (b.map avStr)) (hl : b.length < 2 ^ 36) :
    ∃ c g os, (lim Γ A).call (f_slices_Clone_sl_string_string N) [x] H = some (c, g) ∧ Fresh H g c (b.map avStr) (t_string N) os ∧ (x = avNilS → c = avNilS) := by
  have key : ∃ r, (lim Γ A).call (f_slices_Clone_sl_string_string N) [x] H = some r ∧ ∃ os, Fresh H r.2 r.1 (b.map avStr) (t_string N) os ∧ (x = avNilS → r.1 = avNilS) := by
    obtain ⟨R, hR⟩ : ∃ R : AV × Option Hp → Prop, R = fun r => ∃ os, Fresh H r.2 r.1 (b.map avStr) (t_string N) os ∧ (x = avNilS → r.1 = avNilS) := ⟨_, rfl⟩
    suffices ∃ r, (lim Γ A).call (f_slices_Clone_sl_string_string N) [x] H = some r ∧ R r by simpa [hR] using this
    have live : aeq .pslice x (.lit (.slice none 0 0)) = some false → x ≠ avNilS → ∃ r, (lim Γ A).call (f_slices_Clone_sl_string_string N) [x] H = some r ∧ R r := by
      intro he hne
      apply h.callP (by rfl)
      have hE := (hx.dd none).keep (H' := halloc { l := H.l, d := none } (.arr 1 [] (t_string N))) (fun id hid => by simp [hget_halloc, Nat.ne_of_lt hid])
      have hE' := hE.elems
      have ha : appendOn (halloc { l := H.l, d := none } (.arr 1 [] (t_string N))) (t_string N) 1 16 (.ra 1 H.l.length 0 0) (b.map avStr) = some (.ra 1 (H.l.length + 1) 0 b.length, some (halloc (hset (halloc { l := H.l, d := none } (.arr 1 [] (t_string N))) H.l.length none) (.arr 1 (b.map avStr) (t_string N)))) := by
        have hr : b.length * 16 ≤ roomMax := by unfold roomMax; omega
        have hq := appendOn_ra (H := halloc { l := H.l, d := none } (.arr 1 [] (t_string N))) (e := t_string N) (sz := 1) (bytes := 16) (id := H.l.length) (es := []) (ys := b.map avStr) (by simp) (by simpa using hr) (by simp)
        simpa using hq
      have hm : Mut { l := H.l, d := none } (halloc (hset (halloc { l := H.l, d := none } (.arr 1 [] (t_string N))) H.l.length none) (.arr 1 (b.map avStr) (t_string N))) [] := (((Mut.refl _ []).alloc _).set (.inr (Nat.le_refl _))).alloc _
      have hs := settle_some (H := H) (H' := halloc (hset (halloc { l := H.l, d := none } (.arr 1 [] (t_string N))) H.l.length none) (.arr 1 (b.map avStr) (t_string N))) (v := .ra 1 (H.l.length + 1) 0 b.length) (by simp [AV.under])
      simp [C_slices_Clone_sl_string_string, fillA, repl, setFrom, chunk, he, hE', ha, -halloc_d, -hset_d]
      rw [hs, hR]
      refine ⟨[(H.l.length + 1, .arr 1 (b.map avStr) (t_string N))], ⟨.inr ⟨_, by simp, rfl⟩, hm.settled, ?_⟩, fun e => absurd e hne⟩
      simp only [List.mem_singleton, forall_eq, Option.getD_some]
      refine ⟨?_, by omega⟩
      rw [hget_l]
      simp
    rcases hx with (⟨rfl, hb⟩ | rfl) | ⟨id, off, e, all, rfl, h1⟩
    · apply h.callP (by rfl)
      simp [C_slices_Clone_sl_string_string, aeq_nilS]
      rw [hR]
      refine ⟨[], ⟨?_, Mut.refl _ _, by simp⟩, fun _ => rfl⟩
      exact .inl ⟨rfl, hb, rfl⟩
    · exact live aeq_sl (by simp)
    · exact live aeq_ra (by simp)
  obtain ⟨⟨c, g⟩, e, os, h1, h2⟩ := key
  exact ⟨c, g, os, e, h1, h2⟩

theorem new_call (h : DepC Γ A N) (H : Hp) : ∃ g p m, (lim Γ A).call (f_deps_New N) [] H = some (.ptr p 0, some g) ∧ NetI (fun _ => False) g (t_deps_Net N) p m [] (fun _ => none) ∧ Mut H g [] ∧ H.l.length ≤ p ∧ H.l.length ≤ m := by
  obtain ⟨R, hR⟩ : ∃ R : AV × Option Hp → Prop, R = fun r => ∃ g p m, r = (.ptr p 0, some g) ∧ NetI (fun _ => False) g (t_deps_Net N) p m [] (fun _ => none) ∧ Mut H g [] ∧ H.l.length ≤ p ∧ H.l.length ≤ m := ⟨_, rfl⟩
  suffices ∃ r, (lim Γ A).call (f_deps_New N) [] H = some r ∧ R r by
    obtain ⟨r, e, hr⟩ := this
    rw [hR] at hr
    obtain ⟨g, p, m, rfl, h1, h2⟩ := hr
    exact ⟨g, p, m, e, h1, h2⟩
  have hmu : Mut { l := H.l, d := none } (halloc (halloc { l := H.l, d := none } (.map [] 0)) (.cells [.map H.l.length] (t_deps_Net N))) [] := ((Mut.refl _ _).alloc _).alloc _
  apply h.new.callP (by rfl)
  simp [C_deps_New, setFrom, fillA, -halloc_d]
  rw [settle_some (by simp [AV.under]), hR]
  refine ⟨_, _, _, rfl, ⟨?_, ⟨[], 0, ?_, by simp [SKeys], rfl⟩, by simp, fun _ => rfl, by simp [aGet, vFind], by simp, by simp, by simp, by simp [aGet, vFind], fun _ h => h.elim⟩, hmu.settled, by omega, Nat.le_refl _⟩
  · rw [hget_l]; simp
  · rw [hget_l]; simp

theorem put1_call (h : DepC Γ A N) (s : Bs) (hs : s.length < 2 ^ 40) (H : Hp) : (lim Γ A).call (f_p_deps_Net_Put_1 N) [avStr s] H = some (avBool (!isNameB s), none) := by
  have e1 := fun H => lexN_IsName_call h.lex s hs H
  apply h.put1.call (by rfl)
  simp [C_p_deps_Net_Put_1, e1]
theorem contains_put (h : DepC Γ A N) {H : Hp} {x : AV} {on : List Bs} (hx : Vw H 1 x (on.map avStr)) (hl : on.length < 2 ^ 62) (hb : ∀ s ∈ on, s.length < 2 ^ 40) :
    (lim Γ A).call (f_slices_ContainsFunc_sl_string_string N) [x, .fn (f_p_deps_Net_Put_1 N) [] []] H = some (avBool (on.any fun s => !isNameB s), none) := by
  obtain ⟨r, e, hr⟩ := indexFunc_call h.isS (H := { l := H.l, d := none }) (fv := .fn (f_p_deps_Net_Put_1 N) [] []) (fun e => match e with | .lit (.string s) => !isNameB (bl s) | _ => false) (hx.dd none) (fun e he => by obtain ⟨s, _, rfl⟩ := List.mem_map.1 he; exact ⟨rfl, rfl⟩)
    (fun e he => by
      obtain ⟨s, hs, rfl⟩ := List.mem_map.1 he
      have := put1_call h s (hb s hs) { l := H.l, d := none }
      simpa [callV] using this) (by simpa using hl)
  apply h.csS.call (by rfl)
  simp [C_slices_ContainsFunc_sl_string_string, e, hr]
  rfl

/-- What Put comes to. -/
def PutOut (X : Nat → Prop) (H : Hp) (t : TypeId) (p m : Nat) (l : List (Bs × AV)) (f : NF) (name : Bs) (on : List Bs) (r : AV × Option Hp) : Prop :=
  if (isNameB name && !(on.any fun s => !isNameB s)) = true then ∃ g c, r = (avInt .i64 0, some g) ∧ NetI X g t p m (vPut name c l) (nPut f name (ddB (sortB on))) ∧ Mut H g [m] else r = (avInt .i64 7, none)

theorem Put_run (h : DepC Γ A N) (hi : NetI X H t p m l f) {name : Bs} {on : List Bs} {x : AV} (hx : Vw H 1 x (on.map avStr)) (hn : name.length < 2 ^ 20) (hol : on.length < 2 ^ 20) (hob : ∀ s ∈ on, s.length < 2 ^ 20) (hl : l.length + 1 < 2 ^ 20) :
    DRunP C Γ A (D_p_deps_Net_Put N) [.ptr p 0, avStr name, x] H (PutOut X H t p m l f name on) := by
  have e1 := fun H => lexN_IsName_call h.lex name (by omega) H
  have e2 := fun {H : Hp} (hx : Vw H 1 x (on.map avStr)) => contains_put h hx (by omega) (fun s hs => by have := hob s hs; omega)
  have e3 := e2 (hx.dd none)
  obtain ⟨R, hR⟩ : ∃ R, R = PutOut X H t p m l f name on := ⟨_, rfl⟩
  rw [← hR]
  apply DRunP.of (by rfl)
  cases c1 : isNameB name
  · simp [D_p_deps_Net_Put, e1, c1]
    rw [hR]
    simp [PutOut, c1]
  cases c2 : on.any fun s => !isNameB s
  · obtain ⟨c, g, os, k1, k2, k3⟩ := cloneN_call h.clone (H := { l := H.l, d := none }) (hx.dd none) (by omega)
    simp [D_p_deps_Net_Put, e1, c1, e3, c2, k1, bindH_opt]
    obtain ⟨G, hG⟩ : ∃ G, G = g.getD { l := H.l, d := none } := ⟨_, rfl⟩
    have hwr := k2.wr
    have hhas := k2.has
    rw [← hG] at hwr hhas ⊢
    have hlt := hi.lt
    have hne := hi.ne
    -- what is put in the end
    have fin : ∀ {K : Hp} {c : AV} {es' : MEs} {clk' : Nat} {W : List Nat}, Mut { l := H.l, d := none } K W → (∀ i ∈ W, H.l.length ≤ i) → SKeys es' → KV es' = vPut name c l → Vw K 1 c ((ddB (sortB on)).map avStr) → (∀ id off n, c = .ra 1 id off n → H.l.length ≤ id) →
        R (settle H (avInt .i64 0) (hset K m (some (.map es' clk')))) := fun {K c es' clk' W} hM hW hsk hkv hv hcx => by
      have hMm : Mut { l := H.l, d := none } (hset K m (some (.map es' clk'))) (m :: W) := (hM.weaken2 (fun i hi => List.mem_cons_of_mem _ hi)).set (.inl (by simp))
      have hm0 : Mut { l := H.l, d := none } (hset K m (some (.map es' clk'))) [m] := ⟨hMm.len, fun i h1 h2 => hMm.old i h1 fun hw => by
        rcases List.mem_cons.1 hw with rfl | hw
        · exact h2 (by simp)
        · have := hW i hw
          simp only at h1
          omega, fun q hq => by
        rcases hMm.d q hq with h1 | h1 | ⟨i, h1, h2⟩
        · exact .inl h1
        · exact .inr (.inl h1)
        · rcases List.mem_cons.1 h1 with rfl | h1
          · exact .inr (.inr ⟨_, by simp, h2⟩)
          · exact .inr (.inl (Nat.le_trans (hW i h1) h2))⟩
      have hmK : m < K.l.length := Nat.lt_of_lt_of_le hlt.2 hM.len
      obtain ⟨es0, clk0, m1, _, _⟩ := hi.mp
      have hvm : Vw (hset K m (some (.map es' clk'))) 1 c ((ddB (sortB on)).map avStr) := by
        rcases hv with hv | ⟨id, off, e', all, h0, hgg, hr⟩
        · exact .inl hv
        · refine .inr ⟨id, off, e', all, h0, ?_, hr⟩
          have := hcx id off _ h0
          rw [hget_hset, if_neg (by omega)]
          exact hgg
      have hput := (hi.dd none).put hm0 (by simp; exact hne) (fun i h1 => by
        rw [List.mem_singleton] at h1
        subst h1
        exact .inr fun sz es e (h2 : hget H i = _) => by rw [m1] at h2; cases h2) (by rw [hget_hset, if_pos rfl, if_pos hmK]) hsk hkv hvm (ddB_sorted (sortB_sorted on)) ⟨hn, Nat.lt_of_le_of_lt (ddB_len _) (by rw [(sortB_perm on).length_eq]; exact hol), fun s hs => hob s ((sortB_perm on).mem_iff.1 ((ddB_mem _ _).1 hs))⟩ hl hcx
      rw [settle_wrote (hset_wrote hlt.2), hR]
      simp only [PutOut, c1, c2, Bool.not_false, Bool.and_true, if_true]
      exact ⟨_, c, rfl, hput.dd _, hm0.settled⟩
    rcases k2.row with ⟨rfl, r2, rfl⟩ | ⟨id, rfl, rfl⟩
    · have hon : on = [] := by simpa using r2
      have hcell := hwr.get' hi.cell (by simp)
      obtain ⟨es, clk, m1, m2, m3⟩ := hi.mp
      have hmap := hwr.get' (o := .map es clk) m1 (by simp)
      obtain ⟨es', clk', u1, u2, u3⟩ := aMapupd_str (s := mkS name) (v := avNilS) hmap m2
      have hf := fin (clk' := clk') hwr (by simp) u2 (by rw [u3, m3, bl_mkS]) (.inl (.inl ⟨rfl, by subst hon; rfl⟩)) (by simp)
      simp [h.sortNil]
      refine wpR_alts (by simp) fun cc hcc => ?_
      simp only [List.mem_cons, List.not_mem_nil, or_false] at hcc
      rcases hcc with rfl | rfl
      · simp [DM_p_deps_Net_Put_1, DK_p_deps_Net_Put_1, hcell, h.compactNil, u1, -hset_d]
        exact hf
      · simp [DM_p_deps_Net_Put_2, DK_p_deps_Net_Put_1, hcell, h.compactNil, u1, -hset_d]
        exact hf
    · obtain ⟨g1, g2⟩ := hhas _ (List.mem_singleton.2 rfl)
      simp only at g1 g2
      have s1 := h.sort G id on (t_string N) g1 (by omega)
      have hlen := (sortB_perm on).length_eq
      have hltG := hget_lt g1
      obtain ⟨G2, hG2⟩ : ∃ G2, G2 = hset G id (some (.arr 1 ((sortB on).map avStr) (t_string N))) := ⟨_, rfl⟩
      rw [← hG2] at s1
      have q1 : hget G2 id = some (.arr 1 ((sortB on).map avStr) (t_string N)) := by rw [hG2, hget_hset, if_pos rfl, if_pos hltG]
      have hM2 : Mut { l := H.l, d := none } G2 [id] := by rw [hG2]; exact (hwr.weaken2 (by simp)).set (.inl (by simp))
      obtain ⟨g3, es3, p1, p2, p3, p4, p5⟩ := Compact_call h.compact q1 (by rw [hlen]; omega)
      rw [hlen] at p1
      obtain ⟨K, hK⟩ : ∃ K, K = g3.getD G2 := ⟨_, rfl⟩
      rw [← hK] at p2 p3
      have hM3 : Mut { l := H.l, d := none } K [id] := hM2.trans p2 (by simp)
      have hidp : p ∉ [id] := by simp only [List.mem_singleton]; omega
      have hidm : m ∉ [id] := by simp only [List.mem_singleton]; omega
      have hc2 := hM2.get' hi.cell hidp
      have hc3 := hM3.get' hi.cell hidp
      obtain ⟨es, clk, m1, m2, m3⟩ := hi.mp
      have hmap := hM3.get' (o := .map es clk) m1 hidm
      obtain ⟨es', clk', u1, u2, u3⟩ := aMapupd_str (s := mkS name) (v := .ra 1 id 0 (ddB (sortB on)).length) hmap m2
      have hf := fin (clk' := clk') hM3 (fun i hi => by rw [List.mem_singleton] at hi; omega) u2 (by rw [u3, m3, bl_mkS]) (.inr ⟨id, 0, t_string N, es3, by simp, p3, by simpa using p4, by simpa using p5⟩) (fun id' off n e => by simp only [AV.ra.injEq] at e; omega)
      simp [s1, bindH_opt]
      refine wpR_alts (by simp) fun cc hcc => ?_
      simp only [List.mem_cons, List.not_mem_nil, or_false] at hcc
      rcases hcc with rfl | rfl
      · simp [DM_p_deps_Net_Put_1, DK_p_deps_Net_Put_1, hc2, p1, bindH_opt, ← hK, u1, -hset_d]
        exact hf
      · simp [DM_p_deps_Net_Put_2, DK_p_deps_Net_Put_1, p1, bindH_opt, ← hK, hc3, u1, -hset_d]
        exact hf
  · simp [D_p_deps_Net_Put, e1, c1, e3, c2]
    rw [hR]
    simp [PutOut, c1, c2]
end
end Go.Proofs.Eng
/- Nets: what is asked of them: On, Names, Cone. -/
set_option linter.unusedVariables false
set_option linter.unusedSimpArgs false
set_option maxRecDepth 100000
namespace Go.Proofs.Eng
open Go
theorem sortedR_spec2 (H : Hp) (tS : TypeId) (ks : List Bs) : ∃ x g, sortedR H tS ks = (x, g) ∧ Mut H (g.getD H) [] ∧ Vw (g.getD H) 1 x ((sortB ks).map avStr) ∧ (∀ id off n, x = .ra 1 id off n → H.l.length ≤ id) := by
  unfold sortedR
  cases hs : sortB ks with
  | nil => exact ⟨_, _, rfl, Mut.refl _ _, .inl (.inl ⟨rfl, rfl⟩), by simp⟩
  | cons a r =>
    refine ⟨_, _, rfl, (Mut.refl _ _).alloc _, .inr ⟨H.l.length, 0, tS, (a :: r).map avStr, by simp, by simp, by simp, List.take_of_length_le (by simp)⟩, fun id off n e => ?_⟩
    simp only [AV.ra.injEq] at e
    omega
/-- A row of the program's own, just as it was laid; or none. -/
def RowX (N : Nat → Nat) (H : Hp) (x : AV) (l : List Bs) : Prop := (x = avNilS ∧ l = []) ∨ ∃ id, x = .ra 1 id 0 l.length ∧ hget H id = some (.arr 1 (l.map avStr) (t_string N))
theorem RowX.vw {N : Nat → Nat} {H : Hp} {x : AV} {l : List Bs} (h : RowX N H x l) : Vw H 1 x (l.map avStr) := by
  rcases h with ⟨rfl, rfl⟩ | ⟨id, rfl, h⟩
  · exact .inl (.inl ⟨rfl, rfl⟩)
  · exact .inr ⟨id, 0, t_string N, _, by simp, h, by simp, List.take_of_length_le (by simp)⟩
theorem RowX.mut {N : Nat → Nat} {H K : Hp} {x : AV} {l : List Bs} (h : RowX N H x l) (k : Mut H K []) : RowX N K x l := by
  rcases h with h | ⟨id, rfl, h⟩
  · exact .inl h
  · exact .inr ⟨id, rfl, k.get' h (by simp)⟩
theorem sortedR_spec3 {N : Nat → Nat} (H : Hp) (ks : List Bs) {x : AV} {g : Option Hp} (h : sortedR H (t_string N) ks = (x, g)) : RowX N (g.getD H) x (sortB ks) := by
  unfold sortedR at h
  cases hs : sortB ks with
  | nil => rw [hs] at h; cases h; exact .inl ⟨rfl, rfl⟩
  | cons a r =>
    rw [hs] at h
    cases h
    exact .inr ⟨H.l.length, by simp, by simp⟩
theorem settle_new_or2 {H H' : Hp} {v : AV} (hm : Mut { l := H.l, d := none } H' []) : ∃ g, settle H v H' = (v, g) ∧ Mut H (g.getD H) [] ∧ ((g = none ∧ v.under H.l.length = true) ∨ (g.getD H).l = H'.l) := by
  by_cases hu : v.under H.l.length = true
  · exact ⟨none, settle_keeps (hm.keeps rfl) hu, Mut.refl _ _, .inl ⟨rfl, hu⟩⟩
  · have hu' : v.under H.l.length = false := by simpa using hu
    exact ⟨_, settle_some hu', hm.settled, .inr rfl⟩
theorem settle_rowX {N : Nat → Nat} {H H' : Hp} {v : AV} {l : List Bs} (hm : Mut { l := H.l, d := none } H' []) (hv : RowX N H' v l) : ∃ g, settle H v H' = (v, g) ∧ Mut H (g.getD H) [] ∧ RowX N (g.getD H) v l := by
  obtain ⟨g, s1, s2, s3⟩ := settle_new_or2 (v := v) hm
  refine ⟨g, s1, s2, ?_⟩
  rcases hv with hv | ⟨id, rfl, h1⟩
  · exact .inl hv
  · refine .inr ⟨id, rfl, ?_⟩
    rcases s3 with ⟨rfl, hu⟩ | s3
    · simp only [AV.under, decide_eq_true_eq] at hu
      have := hm.old id hu (by simp)
      unfold hget at h1 ⊢
      rw [this] at h1
      exact h1
    · unfold hget at h1 ⊢
      rw [s3]; exact h1
/-- A row that is handed back. -/
theorem settle_row2 {H H' : Hp} {v : AV} {es : List AV} (hm : Mut { l := H.l, d := none } H' []) (hv : Vw H' 1 v es) : ∃ g, settle H v H' = (v, g) ∧ Mut H (g.getD H) [] ∧ Vw (g.getD H) 1 v es := by
  obtain ⟨g, s1, s2, s3⟩ := settle_new_or2 (v := v) hm
  refine ⟨g, s1, s2, ?_⟩
  rcases hv with hv | ⟨id, off, e, all, rfl, h1, h2⟩
  · exact .inl hv
  · refine .inr ⟨id, off, e, all, rfl, ?_, h2⟩
    rcases s3 with ⟨rfl, hu⟩ | s3
    · simp only [AV.under, decide_eq_true_eq] at hu
      have := hm.old id hu (by simp)
      unfold hget at h1 ⊢
      rw [this] at h1
      exact h1
    · unfold hget at h1 ⊢
      rw [s3]; exact h1
section
variable {Γ : Sums} {A : Tab} {N : Nat → Nat} {C : DCalls} {X : Nat → Prop} {H H' : Hp} {t : TypeId} {p m : Nat} {l : List (Bs × AV)} {f : NF}
theorem keysS_call (h : DepC Γ A N) (H : Hp) (m : Nat) : (lim Γ A).call (f_maps_Keys_map_string_sl_string_string_sl_string N) [.map m] H = some (.fn (f_maps_Keys_map_string_sl_string_string_sl_string_1 N) [] [.ptr H.l.length 0], some { l := H.l ++ [some (.cells [.map m] (t_map_string_sl_string N))], d := dminO H.d none }) := by
  apply h.keysS.call (by rfl)
  simp [C_maps_Keys_map_string_sl_string_string_sl_string]
  rw [settle_some (by simp [AV.under, AV.unders])]
  rfl
theorem keysB_call (h : DepC Γ A N) (H : Hp) (m : Nat) : (lim Γ A).call (f_maps_Keys_map_string_bool_string_bool N) [.map m] H = some (.fn (f_maps_Keys_map_string_bool_string_bool_1 N) [] [.ptr H.l.length 0], some { l := H.l ++ [some (.cells [.map m] (t_map_string_bool N))], d := dminO H.d none }) := by
  apply h.keysB.call (by rfl)
  simp [C_maps_Keys_map_string_bool_string_bool]
  rw [settle_some (by simp [AV.under, AV.unders])]
  rfl
/-- A map's names, rising. -/
theorem sortedS_of (h : DepC Γ A N) {es : MEs} {clk : Nat} (hg : hget H m = some (.map es clk)) (hk : SKeys es) (hb : ∀ e ∈ KV es, e.1.length ≤ maxLen) (hl : es.length < 2 ^ 36) :
    ∃ x g1 g2, (lim Γ A).call (f_maps_Keys_map_string_sl_string_string_sl_string N) [.map m] H = some (.fn (f_maps_Keys_map_string_sl_string_string_sl_string_1 N) [] [.ptr H.l.length 0], some g1) ∧ (lim Γ A).call (f_slices_Sorted_string N) [.fn (f_maps_Keys_map_string_sl_string_string_sl_string_1 N) [] [.ptr H.l.length 0]] g1 = some (x, g2) ∧
      Mut H (g2.getD g1) [] ∧ RowX N (g2.getD g1) x (sortB ((KV es).map Prod.fst)) ∧ (∀ id off n, x = .ra 1 id off n → H.l.length ≤ id) := by
  have k1 := keysS_call h H m
  have hmu : Mut H { l := H.l ++ [some (.cells [.map m] (t_map_string_sl_string N))], d := dminO H.d none } [] := (Mut.refl H []).alloc (.cells [.map m] (t_map_string_sl_string N))
  have hc : hget { l := H.l ++ [some (.cells [.map m] (t_map_string_sl_string N))], d := dminO H.d none } H.l.length = some (.cells [.map m] (t_map_string_sl_string N)) := by simp [hget]
  have hs := h.sortedS _ _ _ _ _ _ hc (hmu.get' hg (by simp)) hk hb hl
  obtain ⟨x, g2, x1, x2, x3, x4⟩ := sortedR_spec2 { l := H.l ++ [some (.cells [.map m] (t_map_string_sl_string N))], d := dminO H.d none } (t_string N) ((KV es).map Prod.fst)
  have x5 := sortedR_spec3 _ _ x1
  rw [x1] at hs
  exact ⟨x, _, g2, k1, hs, hmu.trans x2 (by simp), x5, fun id off n e => by have := x4 id off n e; simp at this; omega⟩
theorem sortedB_of (h : DepC Γ A N) {es : MEs} {clk : Nat} (hg : hget H m = some (.map es clk)) (hk : SKeys es) (hb : ∀ e ∈ KV es, e.1.length ≤ maxLen) (hl : es.length < 2 ^ 36) :
    ∃ x g1 g2, (lim Γ A).call (f_maps_Keys_map_string_bool_string_bool N) [.map m] H = some (.fn (f_maps_Keys_map_string_bool_string_bool_1 N) [] [.ptr H.l.length 0], some g1) ∧ (lim Γ A).call (f_slices_Sorted_string N) [.fn (f_maps_Keys_map_string_bool_string_bool_1 N) [] [.ptr H.l.length 0]] g1 = some (x, g2) ∧
      Mut H (g2.getD g1) [] ∧ RowX N (g2.getD g1) x (sortB ((KV es).map Prod.fst)) ∧ (∀ id off n, x = .ra 1 id off n → H.l.length ≤ id) := by
  have k1 := keysB_call h H m
  have hmu : Mut H { l := H.l ++ [some (.cells [.map m] (t_map_string_bool N))], d := dminO H.d none } [] := (Mut.refl H []).alloc (.cells [.map m] (t_map_string_bool N))
  have hc : hget { l := H.l ++ [some (.cells [.map m] (t_map_string_bool N))], d := dminO H.d none } H.l.length = some (.cells [.map m] (t_map_string_bool N)) := by simp [hget]
  have hs := h.sortedB _ _ _ _ _ _ hc (hmu.get' hg (by simp)) hk hb hl
  obtain ⟨x, g2, x1, x2, x3, x4⟩ := sortedR_spec2 { l := H.l ++ [some (.cells [.map m] (t_map_string_bool N))], d := dminO H.d none } (t_string N) ((KV es).map Prod.fst)
  have x5 := sortedR_spec3 _ _ x1
  rw [x1] at hs
  exact ⟨x, _, g2, k1, hs, hmu.trans x2 (by simp), x5, fun id off n e => by have := x4 id off n e; simp at this; omega⟩

theorem NetI.keysb (h : NetI X H t p m l f) : ∀ k ∈ l.map Prod.fst, k.length < 2 ^ 20 := by
  intro k hk
  have h1 : aGet k l ≠ none := fun e => aGet_none.1 e hk
  have h2 := h.dom k
  cases hf : f k with
  | none => rw [hf] at h2; cases ha : aGet k l with
    | none => exact absurd ha h1
    | some x => rw [ha] at h2; cases h2
  | some on => exact (h.bd k on hf).1
theorem NetI.keys_iff (h : NetI X H t p m l f) (k : Bs) : k ∈ l.map Prod.fst ↔ (f k).isSome = true := by
  rw [← h.dom k]
  cases ha : aGet k l with
  | none => simp only [Option.isSome_none, Bool.false_eq_true, iff_false]; exact aGet_none.1 ha
  | some x =>
    simp only [Option.isSome_some, iff_true]
    exact Decidable.byContradiction fun hk => by rw [aGet_none.2 hk] at ha; cases ha
theorem maxLen_big : 2 ^ 20 ≤ maxLen := by decide
/-- What the map says of a name. -/
theorem NetI.look (h : NetI X H t p m l f) : ∃ es clk, hget H m = some (.map es clk) ∧ SKeys es ∧ KV es = l ∧ (∀ (s : Bs) (z : AV), aLookup H .string z true (.string (mkS s)) (.map m) = some (.tup [(aGet s l).getD z, avBool (f s).isSome])) ∧ ∀ (s : Bs) (z : AV), aLookup H .string z false (.string (mkS s)) (.map m) = some ((aGet s l).getD z) := by
  obtain ⟨es, clk, m1, m2, m3⟩ := h.mp
  refine ⟨es, clk, m1, m2, m3, fun s z => ?_, fun s z => ?_⟩
  · rw [aLookup_str m1 m2, m3, bl_mkS, ← h.dom s]
    unfold aGet
    cases vFind s l <;> rfl
  · rw [aLookup_str' m1 m2, m3, bl_mkS]
    rfl
theorem NetI.rowOf (h : NetI X H t p m l f) (s : Bs) : Vw H 1 ((aGet s l).getD avNilS) (((f s).getD []).map avStr) := by
  have hd := h.dom s
  cases ha : aGet s l with
  | none =>
    rw [ha] at hd
    cases hf : f s with
    | none => exact .inl (.inl ⟨rfl, rfl⟩)
    | some on => rw [hf] at hd; cases hd
  | some x =>
    rw [ha] at hd
    obtain ⟨on, hf⟩ := Option.isSome_iff_exists.1 hd.symm
    rw [hf]
    exact h.row s x on ha hf
theorem NetI.rowb (h : NetI X H t p m l f) (s : Bs) : ((f s).getD []).length < 2 ^ 20 := by
  cases hf : f s with
  | none => simp
  | some on => exact (h.bd s on hf).2.1

theorem On_call (h : DepC Γ A N) (hi : NetI X H t p m l f) (s : Bs) :
    ∃ c g, (lim Γ A).call (f_p_deps_Net_On N) [.ptr p 0, avStr s] H = some (.tup [c, avBool (f s).isSome], g) ∧ Mut H (g.getD H) [] ∧ Vw (g.getD H) 1 c (((f s).getD []).map avStr) := by
  obtain ⟨es, clk, m1, m2, m3, k1, k2⟩ := (hi.dd none).look
  have q1 : hget { l := H.l, d := none } p = some (.cells [.map m] t) := hi.cell
  obtain ⟨c, g, os, c1, c2, c3⟩ := cloneN_call h.clone (H := { l := H.l, d := none }) ((hi.dd none).rowOf s) (by have := hi.rowb s; omega)
  obtain ⟨g', s1, s2, s3⟩ := settle_new_or2 (v := .tup [c, avBool (f s).isSome]) c2.wr
  refine ⟨c, g', ?_, s2, ?_⟩
  · apply h.on.call (by rfl)
    simp [C_p_deps_Net_On, q1, k1, c1, bindH_opt, s1]
  · rcases c2.row with ⟨rfl, r2, rfl⟩ | ⟨id, rfl, rfl⟩
    · exact .inl (.inl ⟨rfl, r2⟩)
    · obtain ⟨r1, r2⟩ := c2.has _ (List.mem_singleton.2 rfl)
      rcases s3 with ⟨_, hu⟩ | s3
      · simp only [AV.under, AV.unders, Bool.and_eq_true, decide_eq_true_eq] at hu
        have := hu.1
        simp only at r2
        omega
      · refine .inr ⟨id, 0, t_string N, _, rfl, ?_, by omega, List.take_of_length_le (by simp)⟩
        unfold hget at r1 ⊢
        rw [s3]; exact r1

theorem Names_call (h : DepC Γ A N) (hi : NetI X H t p m l f) :
    ∃ x g, (lim Γ A).call (f_p_deps_Net_Names N) [.ptr p 0] H = some (x, g) ∧ Mut H (g.getD H) [] ∧ RowX N (g.getD H) x (sortB (l.map Prod.fst)) ∧ (∀ id off n, x = .ra 1 id off n → H.l.length ≤ id) := by
  obtain ⟨es, clk, m1, m2, m3⟩ := (hi.dd none).mp
  have q1 : hget { l := H.l, d := none } p = some (.cells [.map m] t) := hi.cell
  have hb := hi.keysb
  have hml := maxLen_big
  have hsz := hi.sz
  have hkl : es.length = l.length := by rw [← m3]; simp [KV]
  obtain ⟨x, g1, g2, a1, a2, a3, a4, a5⟩ := sortedS_of h m1 m2 (fun e he => by have := hb e.1 (by rw [← m3]; exact List.mem_map.2 ⟨e, he, rfl⟩); omega) (by omega)
  rw [m3] at a4
  obtain ⟨g, s1, s2, s3⟩ := settle_rowX (H := H) a3 a4
  refine ⟨x, g, ?_, s2, s3, a5⟩
  apply h.names.call (by rfl)
  simp only at a1 a2
  simp [C_p_deps_Net_Names, q1, a1, a2, bindH_opt, s1]
end
end Go.Proofs.Eng
/- Nets: the cone of a name. -/
set_option linter.unusedVariables false
set_option linter.unusedSimpArgs false
set_option maxRecDepth 100000
namespace Go.Proofs.Eng
open Go
/-- A set of names, laid as a map. -/
def SetM (H : Hp) (id : Nat) (seen : List Bs) : Prop := ∃ es clk, hget H id = some (.map es clk) ∧ SKeys es ∧ KV es = seen.map fun k => (k, avBool true)
theorem aGet_set (k : Bs) : ∀ seen : List Bs, aGet k (seen.map fun k => (k, avBool true)) = if k ∈ seen then some (avBool true) else none
  | [] => rfl
  | x :: r => by
    rw [List.map_cons, aGet_cons, aGet_set k r]
    by_cases h : k = x
    · simp [h]
    · simp [h]
theorem SetM.look {H : Hp} {id : Nat} {seen : List Bs} (h : SetM H id seen) (s : Bs) : aLookup H .string (avBool false) false (.string (mkS s)) (.map id) = some (avBool (decide (s ∈ seen))) := by
  obtain ⟨es, clk, h1, h2, h3⟩ := h
  rw [aLookup_str' h1 h2, h3, bl_mkS]
  have := aGet_set s seen
  unfold aGet at this
  rw [this]
  by_cases hs : s ∈ seen <;> simp [hs]
theorem SetM.put {H : Hp} {id : Nat} {seen : List Bs} (h : SetM H id seen) {s : Bs} (hs : s ∉ seen) : ∃ K, aMapupd H .string (.string (mkS s)) (avBool true) (.map id) = some K ∧ SetM K id (seen ++ [s]) ∧ ∃ o, K = hset H id (some o) := by
  obtain ⟨es, clk, h1, h2, h3⟩ := h
  obtain ⟨es', clk', u1, u2, u3⟩ := aMapupd_str (s := mkS s) (v := avBool true) h1 h2
  have hlt := hget_lt h1
  refine ⟨_, u1, ⟨es', clk', by rw [hget_hset, if_pos rfl, if_pos hlt], u2, ?_⟩, _, rfl⟩
  rw [u3, h3, bl_mkS, vPut_new (fun x hx => by obtain ⟨k, hk, rfl⟩ := List.mem_map.1 hx; rintro rfl; exact hs hk)]
  simp
theorem SetM.keep {H K : Hp} {id : Nat} {seen : List Bs} (h : SetM H id seen) (k : hget K id = hget H id) : SetM K id seen := by
  obtain ⟨es, clk, h1, h2⟩ := h
  exact ⟨es, clk, by rw [k]; exact h1, h2⟩
/-- A row of the program's own, as it goes. -/
def RowS (N : Nat → Nat) (H : Hp) (x : AV) (l : List Bs) : Prop := ∃ id off all, x = .ra 1 id off l.length ∧ hget H id = some (.arr 1 all (t_string N)) ∧ off + l.length ≤ all.length ∧ (all.drop off).take l.length = l.map avStr
theorem RowS.vw {N : Nat → Nat} {H : Hp} {x : AV} {l : List Bs} (h : RowS N H x l) : Vw H 1 x (l.map avStr) := by
  obtain ⟨id, off, all, rfl, h1, h2, h3⟩ := h
  exact .inr ⟨id, off, t_string N, all, by simp, h1, by simpa using h2, by simpa using h3⟩
theorem RowS.keep {N : Nat → Nat} {H K : Hp} {x : AV} {l : List Bs} (h : RowS N H x l) (k : ∀ id all t, hget H id = some (.arr 1 all t) → hget K id = hget H id) : RowS N K x l := by
  obtain ⟨id, off, all, e, h1, h2⟩ := h
  exact ⟨id, off, all, e, by rw [k id all _ h1]; exact h1, h2⟩
theorem RowS.pop {N : Nat → Nat} {H : Hp} {x : AV} {s : Bs} {l : List Bs} (h : RowS N H x (s :: l)) : ∃ y, aslice 1 x (some (avInt .i64 1)) none = some y ∧ RowS N H y l ∧ ∀ id off n, y = .ra 1 id off n → ∃ off n, x = .ra 1 id off n := by
  obtain ⟨id, off, all, rfl, h1, h2, h3⟩ := h
  simp only [List.length_cons] at h2 h3
  refine ⟨.ra 1 id (off + 1) l.length, by simp [aslice, aBound, show (1 : Int) ≤ (l.length : Int) + 1 by omega], ⟨id, off + 1, all, rfl, h1, by omega, ?_⟩, fun id' off' n e => ?_⟩
  · have := congrArg (List.drop 1) h3
    rw [List.drop_take, List.drop_drop] at this
    simpa using this
  · simp only [AV.ra.injEq] at e
    exact ⟨off, _, by rw [e.2.1]⟩
theorem RowS.app {N : Nat → Nat} {H : Hp} {x : AV} {l : List Bs} (h : RowS N H x l) (s : Bs) (hl : l.length < 2 ^ 30) : ∃ y K id, appendOn H (t_string N) 1 16 x [avStr s] = some (y, some K) ∧ RowS N K y (l ++ [s]) ∧ (∀ j, j < H.l.length → (∀ all t, hget H j ≠ some (.arr 1 all t)) → hget K j = hget H j) ∧ Mut H K [id] ∧ (∃ off n, x = .ra 1 id off n) ∧ y = .ra 1 H.l.length 0 (l.length + 1) := by
  obtain ⟨id, off, all, rfl, h1, h2, h3⟩ := h
  have hlt := hget_lt h1
  refine ⟨.ra 1 H.l.length 0 (l.length + 1), halloc (hset H id none) (.arr 1 (l.map avStr ++ [avStr s]) (t_string N)), id, ?_, ⟨H.l.length, 0, l.map avStr ++ [avStr s], by simp, by rw [hget_halloc, if_pos (by simp)], by simp, ?_⟩, fun j hj hn => ?_, ((Mut.refl H [id]).set (.inl (by simp))).alloc _, ⟨_, _, rfl⟩, rfl⟩
  · simp only [appendOn, h1]
    rw [if_pos ⟨trivial, trivial, h2, by unfold roomMax; simp; omega, by simp⟩, h3]
    simp
  · rw [List.drop_zero, List.take_of_length_le (by simp)]
    simp
  · have hne : id ≠ j := fun e => by subst e; exact hn _ _ h1
    rw [hget_halloc, if_neg (by simp; omega), hget_hset, if_neg (Ne.symm hne)]

section
variable {Γ : Sums} {A : Tab} {N : Nat → Nat} {C : DCalls} {X : Nat → Prop} {H H' : Hp} {t : TypeId} {p m : Nat} {l : List (Bs × AV)} {f : NF}
/-- How far the cone has come: ahead of a name. -/
inductive ConeI (N : Nat → Nat) (H0 : Hp) (p : Nat) (name : Bs) (len : Nat) (f : NF) (sm : Nat) (q : Nat) (ρ : Rho) (H : Hp) : Prop where
  | mk (seen left : List Bs) (h0 : ρ 0 = .ptr p 0) (h7 : ρ 7 = .map sm) (hrow : RowS N H (ρ 8) left) (hM : Mut H0 H []) (hset : SetM H sm seen) (hnd : seen.Nodup) (hname : name ∈ seen) (hr : ∀ k ∈ seen, Reach f name k) (hl : ∀ k ∈ left, k ∈ seen) (hc : ∀ k ∈ seen, k ∈ left ∨ ∀ y, Edge f k y → y ∈ seen) (hq : q = len - seen.length + left.length) (hrn : ∀ id off n, ρ 8 = .ra 1 id off n → H0.l.length ≤ id) (hb : left.length ≤ seen.length)
/-- Within a name's row. -/
inductive ConeJ (N : Nat → Nat) (H0 : Hp) (p : Nat) (name : Bs) (len : Nat) (f : NF) (sm : Nat) (s : Bs) (on : List Bs) (rv : AV) (Q : Nat) (q : Nat) (ρ : Rho) (H : Hp) : Prop where
  | mk (i : Nat) (seen left : List Bs) (h0 : ρ 0 = .ptr p 0) (h7 : ρ 7 = .map sm) (h40 : ρ 40 = rv) (h41 : ρ 41 = avInt .i64 (on.length : Nat)) (h42 : ρ 42 = avInt .i64 (i : Nat)) (hi : i ≤ on.length) (hrow : RowS N H (ρ 8) left) (hM : Mut H0 H []) (hset : SetM H sm seen) (hnd : seen.Nodup) (hname : name ∈ seen) (hr : ∀ k ∈ seen, Reach f name k) (hl : ∀ k ∈ left, k ∈ seen)
      (hs : s ∈ seen) (hc : ∀ k ∈ seen, k ∈ left ∨ k = s ∨ ∀ y, Edge f k y → y ∈ seen) (hd : ∀ j y, j < i → on[j]? = some y → (f y).isSome = true → y ∈ seen) (hQ : len - seen.length + left.length = Q) (hq : q = on.length - i) (hrn : ∀ id off n, ρ 8 = .ra 1 id off n → H0.l.length ≤ id) (hb : left.length ≤ seen.length)

theorem Cone_call (h : DepC Γ A N) (hi : NetI X H t p m l f) (name : Bs) (hn : name.length < 2 ^ 20) :
    ∃ x g L, (lim Γ A).call (f_p_deps_Net_Cone N) [.ptr p 0, avStr name] H = some (x, g) ∧ Mut H (g.getD H) [] ∧ Vw (g.getD H) 1 x (L.map avStr) ∧ Up L ∧ (∀ y, y ∈ L ↔ (f name).isSome = true ∧ Reach f name y) ∧ L.length ≤ l.length := by
  obtain ⟨R, hR⟩ : ∃ R : AV × Option Hp → Prop, R = fun r => ∃ L : List Bs, Mut H (r.2.getD H) [] ∧ Vw (r.2.getD H) 1 r.1 (L.map avStr) ∧ Up L ∧ (∀ y, y ∈ L ↔ (f name).isSome = true ∧ Reach f name y) ∧ L.length ≤ l.length := ⟨_, rfl⟩
  suffices ∃ r, (lim Γ A).call (f_p_deps_Net_Cone N) [.ptr p 0, avStr name] H = some r ∧ R r by
    obtain ⟨⟨v, g⟩, e, hr⟩ := this
    rw [hR] at hr
    obtain ⟨L, hr⟩ := hr
    exact ⟨v, g, L, e, hr⟩
  obtain ⟨c, g, a1, a2, a3⟩ := On_call h (hi.dd none) name
  obtain ⟨G, hG⟩ : ∃ G, G = g.getD { l := H.l, d := none } := ⟨_, rfl⟩
  apply h.cone.callP (by rfl)
  cases hd : (f name).isSome
  · rw [hd] at a1
    rw [← hG] at a2 a3
    simp [C_p_deps_Net_Cone, a1, bindH_opt, ← hG]
    obtain ⟨g', s1, s2, s3⟩ := settle_row2 (H := H) (v := avNilS) (es := []) a2 (.inl (.inl ⟨rfl, rfl⟩))
    rw [s1, hR]
    exact ⟨[], s2, s3, by simp [Up], by simp [hd], by simp⟩
  · rw [hd] at a1
    rw [← hG] at a2 a3
    obtain ⟨es0, clk0, u1, u2, u3⟩ := aMapupd_str (H := halloc G (.map [] 0)) (id := G.l.length) (clk := 0) (es := []) (s := mkS name) (v := avBool true) (by simp) (by simp [SKeys])
    simp [C_p_deps_Net_Cone, a1, bindH_opt, ← hG, fillA, repl, setFrom, chunk, u1, -hset_d, -halloc_d]
    have hlook := (hi.dd none).look
    have hGi := (hi.dd none).still a2
    have hGl := a2.len
    obtain ⟨K0, hK0⟩ : ∃ K0, K0 = halloc (hset (halloc G (.map [] 0)) G.l.length (some (.map es0 clk0))) (.arr 1 [avStr name] (t_string N)) := ⟨_, rfl⟩
    have hM0 : Mut { l := H.l, d := none } K0 [] := by rw [hK0]; exact (((a2.alloc _).set (.inr hGl)).alloc _)
    have hsm : G.l.length < K0.l.length := by rw [hK0]; simp
    have hset0 : SetM K0 G.l.length [name] := ⟨es0, clk0, by rw [hK0, hget_halloc, if_neg (by simp), hget_hset, if_pos rfl, if_pos (by simp)], u2, by rw [u3]; simp [KV, vPut, vFind]⟩
    have hrow0 : RowS N K0 (.ra 1 (G.l.length + 1) 0 1) [name] := ⟨G.l.length + 1, 0, [avStr name], rfl, by rw [hK0, hget_halloc, if_pos (by simp)], by simp, by simp⟩
    have hkl : ∀ seen : List Bs, seen.Nodup → (∀ k ∈ seen, Reach f name k) → seen.length ≤ l.length := fun seen hnd hr => by
      have := List.Nodup.length_le_of_subset (l₁ := seen) (l₂ := l.map Prod.fst) hnd (fun k hk => (hi.keys_iff k).2 ((hr k hk).dom hd))
      simpa using this
    refine wp_round (n := l.length - 1 + 1) (ConeI N { l := H.l, d := none } p name l.length f G.l.length) ?_ ?_
    · exact ⟨[name], [name], rfl, rfl, by rw [← hK0]; exact hrow0, by rw [← hK0]; exact hM0, by rw [← hK0]; exact hset0, by simp, by simp, by simp only [List.mem_singleton, forall_eq]; exact Reach.refl, fun k hk => hk, fun k hk => .inl hk, rfl, fun id off n e => by
        have e : AV.ra 1 (G.l.length + 1) 0 1 = AV.ra 1 id off n := e
        simp only [AV.ra.injEq] at e; simp only at hGl ⊢; omega, by simp⟩
    · rintro q ρ K ⟨seen, left, h0, h7, hrow, hM, hset, hnd, hname, hr, hl, hc, rfl, hrn, hb⟩
      have hiK := (hi.dd none).still hM
      have hcell := hiK.cell
      obtain ⟨es, clk, m1, m2, m3, k1, k2⟩ := hiK.look
      cases left with
      | nil =>
        have hlen := hrow.vw.len
        have hset' := hset
        obtain ⟨es2, clk2, v1, v2, v3⟩ := hset'
        have hkk : (KV es2).map Prod.fst = seen := by rw [v3]; simp [Function.comp_def]
        have hsz := hi.sz
        have hle := hkl seen hnd hr
        have hkb := hi.keysb
        have hml := maxLen_big
        obtain ⟨x, g1, g2, b1, b2, b3, b4, b5⟩ := sortedB_of h v1 v2 (fun e he => by
          have hm : e.1 ∈ seen := by rw [← hkk]; exact List.mem_map.2 ⟨e, he, rfl⟩
          have := hkb e.1 ((hi.keys_iff _).2 ((hr _ hm).dom hd))
          omega) (by have : es2.length = seen.length := by rw [← hkk]; simp [KV]
                     omega)
        rw [hkk] at b4
        obtain ⟨g', s1, s2, s3⟩ := settle_row2 (H := H) (hM.trans b3 (by simp)) b4.vw
        simp [L_p_deps_Net_Cone_1, K_p_deps_Net_Cone_1, h0, h7, hlen, b1, b2, bindH_opt, s1]
        rw [hR]
        refine ⟨sortB seen, s2, s3, Up.sort hnd, fun y => ?_, by rw [(sortB_perm seen).length_eq]; exact hle⟩
        rw [(sortB_perm seen).mem_iff]
        refine ⟨fun hy => ⟨hd, hr y hy⟩, fun hy => hy.2.closed (S := fun z => z ∈ seen) hname fun a b ha hab => ?_⟩
        rcases hc a ha with hk | hk
        · simp at hk
        · exact hk b hab
      | cons s rest =>
        have hlen := hrow.vw.len
        simp only [List.length_map, List.length_cons] at hlen
        obtain ⟨y, p1, p2, p3⟩ := hrow.pop
        obtain ⟨qa, r1, r2⟩ := hrow.vw.at' (k := .i64) (i := 0) (e := avStr s) (by omega) (by simp) rfl rfl rfl
        have hgt : (0 : Int) < ((rest.length + 1 : Nat) : Int) := by omega
        have hrow2 := hiK.rowOf s
        have hlen2 := hrow2.len
        simp only [List.length_map] at hlen2
        have hsb := hl s (by simp)
        simp [L_p_deps_Net_Cone_1, h0, h7, hlen, p1, r1, r2, hcell, k2, hlen2, -Int.natCast_add]
        have hrowb := hi.rowb s
        have hon : ∀ (j : Nat) (z : Bs), ((f s).getD [])[j]? = some z → z.length < 2 ^ 20 := fun j z hz => by
          cases hfs : f s with
          | none => rw [hfs] at hz; simp at hz
          | some on => rw [hfs] at hz; exact (hi.bd s on hfs).2.2 z (List.mem_of_getElem? hz)
        refine wp_round (n := ((f s).getD []).length) (ConeJ N { l := H.l, d := none } p name l.length f G.l.length s ((f s).getD []) ((aGet s l).getD avNilS) (l.length - seen.length + rest.length)) ?_ ?_
        · refine ⟨0, seen, rest, h0, h7, rfl, rfl, rfl, by omega, p2, hM, hset, hnd, hname, hr, fun k hk => hl k (by simp [hk]), hsb, fun k hk => ?_, by omega, rfl, rfl, fun id off n e => ?_, ?_⟩
          · rcases hc k hk with h1 | h1
            · rcases List.mem_cons.1 h1 with h1 | h1
              · exact .inr (.inl h1)
              · exact .inl h1
            · exact .inr (.inr h1)
          · obtain ⟨off', n', e'⟩ := p3 id off n e
            exact hrn id off' n' e'
          · simp only [List.length_cons] at hb; omega
        · rintro q2 ρ K2 ⟨j, seen2, left2, h0, h7, h40, h41, h42, hj, hrow', hM, hset, hnd, hname, hr, hl, hs, hc, hdn, hQ, rfl, hrn, hb⟩
          have hiK := (hi.dd none).still hM
          have hcell := hiK.cell
          obtain ⟨es, clk, m1, m2, m3, k1, k2⟩ := hiK.look
          have hle := hkl seen2 hnd hr
          have hsz := hi.sz
          have hw : IntKind.wrap .i64 ((j : Int) + 1) = ((j + 1 : Nat) : Int) := by rw [wrap64 (by omega) (by omega)]; omega
          by_cases hjl : j < ((f s).getD []).length
          · have hjl' : (j : Int) < ((f s).getD []).length := by omega
            obtain ⟨z, hz⟩ : ∃ z, ((f s).getD [])[j]? = some z := ⟨_, List.getElem?_eq_getElem hjl⟩
            obtain ⟨qb, t1, t2⟩ := (hiK.rowOf s).at' (k := .i64) (i := (j : Int)) (e := avStr z) (by omega) (by simp [hz]) rfl rfl rfl
            have hzl := hon j z hz
            have hlk := hset.look z
            cases hdz : (f z).isSome
            · simp [L_p_deps_Net_Cone_2, h0, h7, h40, h41, h42, hjl', t1, t2, hcell, k1, hdz, hw, -Int.natCast_add]
              exact ⟨((f s).getD []).length - (j + 1), by omega, ⟨j + 1, seen2, left2, h0, h7, h40, h41, rfl, by omega, hrow', hM, hset, hnd, hname, hr, hl, hs, hc, fun i y hi hy hfy => (by
                by_cases hij : i < j
                · exact hdn i y hij hy hfy
                · have : i = j := by omega
                  subst this
                  rw [hz] at hy
                  cases hy
                  rw [hdz] at hfy
                  cases hfy), hQ, rfl, hrn, hb⟩⟩
            · by_cases hzs : z ∈ seen2
              · rw [decide_eq_true hzs] at hlk
                simp [L_p_deps_Net_Cone_2, h0, h7, h40, h41, h42, hjl', t1, t2, hcell, k1, hdz, hlk, hw, -Int.natCast_add]
                exact ⟨((f s).getD []).length - (j + 1), by omega, ⟨j + 1, seen2, left2, h0, h7, h40, h41, rfl, by omega, hrow', hM, hset, hnd, hname, hr, hl, hs, hc, fun i y hi hy hfy => (by
                  by_cases hij : i < j
                  · exact hdn i y hij hy hfy
                  · have : i = j := by omega
                    subst this
                    rw [hz] at hy
                    cases hy
                    exact hzs), hQ, rfl, hrn, hb⟩⟩
              · rw [decide_eq_false hzs] at hlk
                obtain ⟨K3, u1, u2, o, u3⟩ := hset.put hzs
                have hsmK := hset
                obtain ⟨es5, clk5, w1, _⟩ := hsmK
                have hK3l : K3.l.length = K2.l.length := by rw [u3]; simp
                have hrow3 : RowS N (halloc K3 (.arr 1 [avStr z] (t_string N))) (ρ 8) left2 := hrow'.keep fun id all t' hid => by
                  have hne : id ≠ G.l.length := fun e => by subst e; rw [w1] at hid; cases hid
                  have := hget_lt hid
                  rw [hget_halloc, if_neg (by rw [hK3l]; omega), u3, hget_hset, if_neg hne]
                have hll : left2.length < 2 ^ 30 := by
                  have := hkl seen2 hnd hr
                  omega
                obtain ⟨y4, K4, idr, v1, v2, v3, v4, v5, v6⟩ := hrow3.app z hll
                obtain ⟨offr, nr, v5⟩ := v5
                have hidr := hrn idr offr nr v5
                have hMK : Mut { l := H.l, d := none } (halloc K3 (.arr 1 [avStr z] (t_string N))) [] := by
                  rw [u3]
                  exact (hM.set (.inr hGl)).alloc _
                have hM4 : Mut { l := H.l, d := none } K4 [] := hMK.trans v4 (by simp; exact hidr)
                have hsmlt : G.l.length < K2.l.length := hget_lt w1
                have hset4 : SetM K4 G.l.length (seen2 ++ [z]) := by
                  have h3 : SetM (halloc K3 (.arr 1 [avStr z] (t_string N))) G.l.length (seen2 ++ [z]) := u2.keep (by rw [hget_halloc, if_neg (by rw [hK3l]; omega)])
                  refine h3.keep (v3 _ (by simp [hK3l]; omega) fun all t' he => ?_)
                  obtain ⟨es6, clk6, w2, _⟩ := h3
                  rw [w2] at he; cases he
                have hadd : (l.length - (seen2 ++ [z]).length) + (left2 ++ [z]).length = l.length - seen.length + rest.length := by
                  have h5 := hkl (seen2 ++ [z]) (by rw [List.nodup_append]; exact ⟨hnd, by simp, by rintro a ha c hc rfl; simp only [List.mem_singleton] at hc; exact hzs (hc ▸ ha)⟩) (fun k hk => by
                    rcases List.mem_append.1 hk with hk | hk
                    · exact hr k hk
                    · rw [List.mem_singleton] at hk; subst hk
                      exact (hr s hs).step ⟨List.mem_of_getElem? hz, hdz⟩)
                  simp only [List.length_append, List.length_singleton] at h5 ⊢
                  omega
                simp [L_p_deps_Net_Cone_2, h0, h7, h40, h41, h42, hjl', t1, t2, hcell, k1, hdz, hlk, u1, fillA, repl, setFrom, chunk, asElems, hget_halloc, v1, bindH_opt, hw, -hset_d, -halloc_d, -Int.natCast_add]
                refine ⟨((f s).getD []).length - (j + 1), by omega, ⟨j + 1, seen2 ++ [z], left2 ++ [z], h0, h7, h40, h41, rfl, by omega, v2, hM4, hset4, ?_, by simp [hname], fun k hk => ?_, fun k hk => ?_, by simp [hs], fun k hk => ?_, fun i y hi hy hfy => ?_, hadd, rfl, fun id off n e => ?_, by simp; omega⟩⟩
                · rw [List.nodup_append]
                  exact ⟨hnd, by simp, by rintro a ha c hc rfl; simp only [List.mem_singleton] at hc; exact hzs (hc ▸ ha)⟩
                · rcases List.mem_append.1 hk with hk | hk
                  · exact hr k hk
                  · rw [List.mem_singleton] at hk; subst hk
                    exact (hr s hs).step ⟨List.mem_of_getElem? hz, hdz⟩
                · rcases List.mem_append.1 hk with hk | hk
                  · exact List.mem_append_left _ (hl k hk)
                  · exact List.mem_append_right _ hk
                · rcases List.mem_append.1 hk with hk | hk
                  · rcases hc k hk with h1 | h1 | h1
                    · exact .inl (List.mem_append_left _ h1)
                    · exact .inr (.inl h1)
                    · exact .inr (.inr fun y hy => List.mem_append_left _ (h1 y hy))
                  · exact .inl (List.mem_append_right _ hk)
                · by_cases hij : i < j
                  · exact List.mem_append_left _ (hdn i y hij hy hfy)
                  · have : i = j := by omega
                    subst this
                    rw [hz] at hy
                    cases hy
                    simp
                · have e : y4 = .ra 1 id off n := e
                  rw [v6] at e
                  simp only [AV.ra.injEq] at e
                  have := hMK.len
                  omega
          · have hjn : j = ((f s).getD []).length := by omega
            subst hjn
            have hw2 : ¬ ((((f s).getD []).length : Nat) : Int) < ((f s).getD []).length := by omega
            simp [L_p_deps_Net_Cone_2, h0, h7, h40, h41, h42]
            refine ⟨_, ?_, ⟨seen2, left2, h0, h7, hrow', hM, hset, hnd, hname, hr, hl, fun k hk => ?_, rfl, hrn, hb⟩⟩
            · omega
            · rcases hc k hk with h1 | h1 | h1
              · exact .inl h1
              · subst h1
                refine .inr fun y hy => ?_
                obtain ⟨i, hi⟩ := List.mem_iff_getElem?.1 hy.1
                exact hdn i y (List.getElem?_eq_some_iff.1 hi).1 hi hy.2
              · exact .inr h1
end
end Go.Proofs.Eng
/- Templates of functions, as the engine takes them; numbers of functions and types by names. Printed by tm.py. -/
set_option linter.unusedVariables false
set_option maxRecDepth 100000
namespace Go.Proofs.Eng
open Go

def L_law07_Same_1 (N : Nat → Nat) : AC :=
    .seq (
     .ops [⟨(some 14), .bin .lss (.t 13) (.t 12), none⟩]) (
    .seq (
     .cond (.t 14) (
      .skip) (
      .exit 0)) (
    .seq (
     .block 1 (
      .seq (
       .ops [⟨(some 15), .mov (.t 13), none⟩, ⟨(some 5), .mov (.t 15), none⟩]) (
      .seq (
       .dops 6 [⟨(some 16), .mov (.t 0), none⟩, ⟨(some 17), .mov (.t 5), none⟩, ⟨(some 18), .iaddr 1 (.t 16) (.t 17), none⟩, ⟨(some 19), .load none (.t 18), none⟩, ⟨(some 20), .mov (.t 1), none⟩, ⟨(some 21), .mov (.t 5), none⟩, ⟨(some 22), .iaddr 1 (.t 20) (.t 21), none⟩, ⟨(some 23), .load none (.t 22), none⟩, ⟨(some 24), .eq true .pstr (.t 19) (.t 23), none⟩] [0, 0, 0, 2, 0, 0, 0, 2, 0] []) (
      .cond (.t 24) (
       .seq (
        .ops [⟨(some 4), .mov (.c (.lit (.bool false))), none⟩]) (
       .ret)) (
       .skip))))) (
    .ops [⟨(some 25), .bin .add (.t 13) (.c (.lit (.int .i64 1))), none⟩, ⟨(some 13), .mov (.t 25), none⟩])))
def K_law07_Same_1 (N : Nat → Nat) : AC :=
 .seq (
  .ops [⟨(some 4), .mov (.c (.lit (.bool true))), none⟩]) (
 .ret)
/-- azimuth/azimuthlaw07.Same -/
def C_law07_Same (N : Nat → Nat) : AFunc := ⟨26, [.inl 4],
 .seq (
  .ops [⟨(some 4), .mov (.c (.lit (.bool false))), none⟩]) (
 .seq (
  .seq (
   .ops [⟨(some 6), .mov (.t 0), none⟩, ⟨(some 7), .len (.t 6), none⟩, ⟨(some 8), .mov (.t 1), none⟩, ⟨(some 9), .len (.t 8), none⟩, ⟨(some 10), .eq true .pint (.t 7) (.t 9), none⟩]) (
  .cond (.t 10) (
   .seq (
    .ops [⟨(some 4), .mov (.c (.lit (.bool false))), none⟩]) (
   .ret)) (
   .skip))) (
 .seq (
  .seq (
   .ops [⟨(some 11), .mov (.t 0), none⟩, ⟨(some 12), .len (.t 11), none⟩, ⟨(some 13), .mov (.c (.lit (.int .i64 0))), none⟩]) (
  .block 0 (
   .loop (L_law07_Same_1 N)))) (K_law07_Same_1 N))), false⟩

/-- azimuth/azimuthlaw24.lives -/
def C_law24_lives (N : Nat → Nat) : AFunc := ⟨28, [.inl 0],
 .seq (
  .ops [⟨(some 0), .mov (.c (.lit (.bool false))), none⟩]) (
 .seq (
  .ops [⟨(some 4), .call (.c (.fn (f_deps_New N) [] [])) [], none⟩, ⟨(some 1), .mov (.t 4), none⟩]) (
 .seq (
  .ops [⟨(some 5), .mov (.t 1), none⟩, ⟨(some 6), .bslice (t_string N) 1 none 2 [(.lit (.string (mkS [])))] [(0, 1, (.c (.lit (.string (mkS [99]))))), (1, 1, (.c (.lit (.string (mkS [98])))))], none⟩, ⟨(some 7), .call (.c (.fn (f_p_deps_Net_Put N) [] [])) [(.t 5), (.c (.lit (.string (mkS [97])))), (.t 6)], none⟩, ⟨(some 2), .mov (.t 7), none⟩]) (
 .seq (
  .ops [⟨(some 8), .mov (.t 1), none⟩, ⟨(some 9), .call (.c (.fn (f_p_deps_Net_Put N) [] [])) [(.t 8), (.c (.lit (.string (mkS [98])))), (.c (.lit (.slice none 0 0)))], none⟩, ⟨(some 3), .mov (.t 9), none⟩]) (
 .seq (
  .ops [⟨(some 10), .mov (.t 2), none⟩, ⟨(some 11), .eq false .pint (.t 10) (.c (.lit (.int .i64 0))), none⟩, ⟨(some 12), .mov (.t 11), none⟩, ⟨(some 13), .mov (.t 3), (some (12, true))⟩, ⟨(some 14), .eq false .pint (.t 13) (.c (.lit (.int .i64 0))), (some (12, true))⟩, ⟨(some 15), .pick (.t 12) (.t 14) (.c (.lit (.bool false))), none⟩, ⟨(some 16), .mov (.t 15), none⟩, ⟨(some 17), .mov (.t 1), (some (16, true))⟩, ⟨(some 18), .call (.c (.fn (f_p_deps_Net_Cone N) [] [])) [(.t 17), (.c (.lit (.string (mkS [97]))))], (some (16, true))⟩, ⟨(some 19), .bslice (t_string N) 1 none 2 [(.lit (.string (mkS [])))] [(0, 1, (.c (.lit (.string (mkS [97]))))), (1, 1, (.c (.lit (.string (mkS [98])))))], (some (16, true))⟩, ⟨(some 20), .call (.c (.fn (f_law07_Same N) [] [])) [(.t 18), (.t 19)], (some (16, true))⟩, ⟨(some 21), .pick (.t 16) (.t 20) (.c (.lit (.bool false))), none⟩, ⟨(some 22), .mov (.t 21), none⟩, ⟨(some 23), .mov (.t 1), (some (22, true))⟩, ⟨(some 24), .call (.c (.fn (f_p_deps_Net_Missing N) [] [])) [(.t 23)], (some (22, true))⟩, ⟨(some 25), .bslice (t_string N) 1 none 1 [(.lit (.string (mkS [])))] [(0, 1, (.c (.lit (.string (mkS [99])))))], (some (22, true))⟩, ⟨(some 26), .call (.c (.fn (f_law07_Same N) [] [])) [(.t 24), (.t 25)], (some (22, true))⟩, ⟨(some 27), .pick (.t 22) (.t 26) (.c (.lit (.bool false))), none⟩, ⟨(some 0), .mov (.t 27), none⟩]) (
 .ret))))), false⟩
end Go.Proofs.Eng
/- Nets: who stands on a name, and what is not there; rows held against each other. -/
set_option linter.unusedVariables false
set_option linter.unusedSimpArgs false
set_option maxRecDepth 100000
namespace Go.Proofs.Eng
open Go
section
variable {Γ : Sums} {A : Tab} {N : Nat → Nat} {C : DCalls} {X : Nat → Prop} {H H' : Hp} {t : TypeId} {p m : Nat} {l : List (Bs × AV)} {f : NF}
theorem index_gen (h : LexN Γ A N) {H : Hp} {x : AV} {l : List Bs} (hx : Vw H 1 x (l.map avStr)) (s : Bs) (hl : l.length < 2 ^ 40) :
    ∃ i : Int, (lim Γ A).call (f_slices_Index_sl_string_string N) [x, avStr s] H = some (avInt .i64 i, none) ∧ (0 ≤ i ↔ s ∈ l) := by
  obtain ⟨R, hR⟩ : ∃ R : AV × Option Hp → Prop, R = fun r => ∃ i : Int, r = (avInt .i64 i, none) ∧ (0 ≤ i ↔ s ∈ l) := ⟨_, rfl⟩
  have hlen := hx.len
  simp only [List.length_map] at hlen
  have key : ∃ r, (lim Γ A).call (f_slices_Index_sl_string_string N) [x, avStr s] H = some r ∧ R r := by
    apply h.index.callP (by rfl)
    simp [C_slices_Index_sl_string_string, hlen, -Int.natCast_add]
    refine wp_round (fun k ρ H' => H' = { l := H.l, d := none } ∧ ∃ i : Nat, ρ 0 = x ∧ ρ 1 = avStr s ∧ ρ 7 = avInt .i64 l.length ∧ ρ 8 = avInt .i64 i ∧ i ≤ l.length ∧ (s ∉ l.take i) ∧ k = l.length - i) (n := l.length)
      ⟨rfl, 0, rfl, rfl, rfl, rfl, by omega, by simp, rfl⟩ ?_
    rintro k ρ H' ⟨rfl, i, h0, h1, h7, h8, hi, hn, rfl⟩
    by_cases hlt : i < l.length
    · have hlt' : (i : Int) < l.length := by omega
      obtain ⟨q, q1, q2⟩ := (hx.dd none).at' (k := .i64) (i := (i : Int)) (e := avStr l[i]) (by omega) (by simp [List.getElem?_eq_getElem hlt]) rfl rfl rfl
      by_cases he : s = l[i]
      · have hm : s ∈ l := by rw [he]; exact List.getElem_mem hlt
        simp [L_slices_Index_sl_string_string_1, h0, h1, h7, h8, hlt', q1, q2, he]
        rw [hR]
        refine ⟨i, rfl, ?_⟩
        simp [hm]
      · have hw : IntKind.wrap .i64 ((i : Int) + 1) = ((i + 1 : Nat) : Int) := by rw [wrap64 (by omega) (by omega)]; omega
        simp [L_slices_Index_sl_string_string_1, h0, h1, h7, h8, hlt', q1, q2, he, hw, -Int.natCast_add]
        refine ⟨_, ?_, i + 1, rfl, by omega, ?_, rfl⟩
        · omega
        · intro hm
          rw [List.take_succ_eq_append_getElem hlt] at hm
          rcases List.mem_append.1 hm with hm | hm
          · exact hn hm
          · exact he (List.mem_singleton.1 hm)
    · have hlt' : ¬ (i : Int) < l.length := by omega
      have hi' : i = l.length := by omega
      subst hi'
      simp only [List.take_length] at hn
      simp [L_slices_Index_sl_string_string_1, K_slices_Index_sl_string_string_1, h0, h1, h7, h8]
      rw [hR]
      refine ⟨-1, rfl, ?_⟩
      simp [hn]
  obtain ⟨r, e, hr⟩ := key
  rw [hR] at hr
  obtain ⟨i, rfl, hi⟩ := hr
  exact ⟨i, e, hi⟩
theorem contains_gen (h : LexN Γ A N) {H : Hp} {x : AV} {l : List Bs} (hx : Vw H 1 x (l.map avStr)) (s : Bs) (hl : l.length < 2 ^ 40) : (lim Γ A).call (f_slices_Contains_sl_string_string N) [x, avStr s] H = some (avBool (decide (s ∈ l)), none) := by
  obtain ⟨i, e1, e2⟩ := index_gen h (hx.dd none) s hl
  apply h.contains.call (by rfl)
  simp [C_slices_Contains_sl_string_string, e1, e2]

/-- The first of a row that .. -/
theorem indexFunc_full {f : FuncId} (h : Has Γ A f (C_slices_IndexFunc_sl_string_string N)) {H : Hp} {x fv : AV} {es : List Bs} (p : Bs → Bool) (hx : Vw H 1 x (es.map avStr))
    (hp : ∀ e ∈ es, callV (lim Γ A) fv [avStr e] { l := H.l, d := none } = some (avBool (p e), none)) (hl : es.length < 2 ^ 40) : ((∀ e ∈ es, p e = false) ∧ (lim Γ A).call f [x, fv] H = some (avInt .i64 (-1), none)) ∨ ∃ i : Nat, (lim Γ A).call f [x, fv] H = some (avInt .i64 (i : Nat), none) ∧ i < es.length ∧ (∀ e ∈ es.take i, p e = false) ∧ ∃ e, es[i]? = some e ∧ p e = true := by
  obtain ⟨R, hR⟩ : ∃ R : AV × Option Hp → Prop, R = fun r => ((∀ e ∈ es, p e = false) ∧ r = (avInt .i64 (-1), none)) ∨ ∃ i : Nat, r = (avInt .i64 (i : Nat), none) ∧ i < es.length ∧ (∀ e ∈ es.take i, p e = false) ∧ ∃ e, es[i]? = some e ∧ p e = true := ⟨_, rfl⟩
  suffices ∃ r, (lim Γ A).call f [x, fv] H = some r ∧ R r by
    obtain ⟨r, e, hr⟩ := this
    rw [hR] at hr
    rcases hr with ⟨h1, rfl⟩ | ⟨i, rfl, h1⟩
    · exact .inl ⟨h1, e⟩
    · exact .inr ⟨i, e, h1⟩
  have hlen := hx.len
  simp only [List.length_map] at hlen
  apply h.callP (by rfl)
  simp [C_slices_IndexFunc_sl_string_string, hlen, -Int.natCast_add]
  refine wp_round (fun k ρ H' => H' = { l := H.l, d := none } ∧ ∃ i : Nat, ρ 0 = x ∧ ρ 1 = fv ∧ ρ 7 = avInt .i64 es.length ∧ ρ 8 = avInt .i64 i ∧ i ≤ es.length ∧ (∀ e ∈ es.take i, p e = false) ∧ k = es.length - i) (n := es.length) ⟨rfl, 0, rfl, rfl, rfl, rfl, by omega, by simp, rfl⟩ ?_
  rintro k ρ H' ⟨rfl, i, r0, r1, r7, r8, hi, ha, rfl⟩
  by_cases hlt : i < es.length
  · have hlt' : (i : Int) < es.length := by omega
    have hm := List.getElem_mem hlt
    obtain ⟨q, q1, q2⟩ := (hx.dd none).at' (k := .i64) (i := (i : Int)) (e := avStr es[i]) (by omega) (by simp [List.getElem?_eq_getElem hlt]) rfl rfl rfl
    have q3 := hp _ hm
    have hw : IntKind.wrap .i64 ((i : Int) + 1) = ((i + 1 : Nat) : Int) := by rw [wrap64 (by omega) (by omega)]; omega
    cases hc : p es[i]
    · rw [hc] at q3
      simp [L_slices_IndexFunc_sl_string_string_1, r0, r1, r7, r8, hlt', q1, q2, q3, hw, -Int.natCast_add]
      refine ⟨es.length - (i + 1), by omega, i + 1, rfl, by omega, fun e he => ?_, rfl⟩
      rw [List.take_succ_eq_append_getElem hlt] at he
      rcases List.mem_append.1 he with he | he
      · exact ha e he
      · rw [List.mem_singleton.1 he]; exact hc
    · rw [hc] at q3
      have fin : R (avInt .i64 (i : Int), none) := by rw [hR]; exact .inr ⟨i, rfl, hlt, ha, es[i], List.getElem?_eq_getElem hlt, hc⟩
      simp [L_slices_IndexFunc_sl_string_string_1, r0, r1, r7, r8, hlt', q1, q2, q3, hw, -Int.natCast_add]
      exact fin
  · have hlt' : ¬ (i : Int) < es.length := by omega
    have fin : R (avInt .i64 (-1), none) := by rw [hR]; rw [List.take_of_length_le (by omega)] at ha; exact .inl ⟨ha, rfl⟩
    simp [L_slices_IndexFunc_sl_string_string_1, K_slices_IndexFunc_sl_string_string_1, r0, r1, r7, r8, hlt']
    exact fin

/-- How far DeleteFunc has come. -/
inductive DelI (es : List Bs) (pd : Bs → Bool) (id : Nat) (t : TypeId) (fv : AV) (H0 : Hp) (q : Nat) (ρ : Rho) (H : Hp) : Prop where
  | mk (i j : Nat) (all : List AV) (h0 : ρ 0 = .ra 1 id 0 es.length) (h1 : ρ 1 = fv) (h5 : ρ 5 = avInt .i64 (i : Nat)) (h6 : ρ 6 = avInt .i64 (j : Nat)) (hij : i < j) (hj : j ≤ es.length) (hM : Mut H0 H [id]) (hg : hget H id = some (.arr 1 all t)) (hal : all.length = es.length)
      (hi : ((es.take j).filter fun e => !pd e).length = i) (ht : all.take i = ((es.take j).filter fun e => !pd e).map avStr) (hr : ∀ k, j ≤ k → all[k]? = (es.map avStr)[k]?) (hq : q = es.length - j)

theorem deleteFunc_call (h : DepC Γ A N) {H : Hp} {fv : AV} {es : List Bs} {id : Nat} {t : TypeId} (pd : Bs → Bool) (hg : hget H id = some (.arr 1 (es.map avStr) t))
    (hp : ∀ K, Mut { l := H.l, d := none } K [id] → ∀ e ∈ es, callV (lim Γ A) fv [avStr e] K = some (avBool (pd e), none)) (hl : es.length < 2 ^ 40) :
    ∃ g all, (lim Γ A).call (f_slices_DeleteFunc_sl_string_string N) [.ra 1 id 0 es.length, fv] H = some (.ra 1 id 0 (es.filter fun e => !pd e).length, g) ∧ Mut H (g.getD H) [id] ∧ hget (g.getD H) id = some (.arr 1 all t) ∧ (es.filter fun e => !pd e).length ≤ all.length ∧ all.take (es.filter fun e => !pd e).length = (es.filter fun e => !pd e).map avStr := by
  obtain ⟨R, hR⟩ : ∃ R : AV × Option Hp → Prop, R = fun r => r.1 = .ra 1 id 0 (es.filter fun e => !pd e).length ∧ ∃ all, Mut H (r.2.getD H) [id] ∧ hget (r.2.getD H) id = some (.arr 1 all t) ∧ (es.filter fun e => !pd e).length ≤ all.length ∧ all.take (es.filter fun e => !pd e).length = (es.filter fun e => !pd e).map avStr := ⟨_, rfl⟩
  suffices ∃ r, (lim Γ A).call (f_slices_DeleteFunc_sl_string_string N) [.ra 1 id 0 es.length, fv] H = some r ∧ R r by
    obtain ⟨⟨v, g⟩, e, hr⟩ := this
    rw [hR] at hr
    obtain ⟨rfl, all, r1, r2, r3, r4⟩ := hr
    exact ⟨g, all, e, r1, r2, r3, r4⟩
  have hlt := hget_lt hg
  have hv : Vw { l := H.l, d := none } 1 (.ra 1 id 0 es.length) (es.map avStr) := .inr ⟨id, 0, t, _, by simp, hg, by simp, List.take_of_length_le (by simp)⟩
  apply h.del.callP (by rfl)
  rcases indexFunc_full h.isS (fv := fv) pd hv (fun e he => hp _ (Mut.refl _ _) e he) hl with ⟨n1, n2⟩ | ⟨i0, n1, n2, n3, e0, n4, n5⟩
  · have hf : (es.filter fun e => !pd e) = es := List.filter_eq_self.2 fun e he => by simp [n1 e he]
    have fin : R (AV.ra 1 id 0 es.length, none) := by
      rw [hR]
      exact ⟨by rw [hf], _, Mut.refl _ _, hg, by rw [hf]; simp, by rw [hf, List.take_of_length_le (by simp)]⟩
    simp [C_slices_DeleteFunc_sl_string_string, n2, hlt]
    exact fin
  · have hw0 : IntKind.wrap .i64 ((i0 : Int) + 1) = ((i0 + 1 : Nat) : Int) := by rw [wrap64 (by omega) (by omega)]; omega
    have hm1 : ¬ (i0 : Int) = -1 := by omega
    simp [C_slices_DeleteFunc_sl_string_string, n1, hm1, hw0, -Int.natCast_add]
    have hf0 : ((es.take i0).filter fun e => !pd e) = es.take i0 := List.filter_eq_self.2 fun e he => by simp [n3 e he]
    have hf1 : ((es.take (i0 + 1)).filter fun e => !pd e) = es.take i0 := by
      rw [List.take_succ_eq_append_getElem n2, List.filter_append, hf0]
      rw [List.getElem?_eq_getElem n2] at n4
      simp only [Option.some.injEq] at n4
      simp [n4, n5]
    refine wp_round (n := es.length - (i0 + 1)) (DelI es pd id t fv { l := H.l, d := none }) ?_ ?_
    · exact ⟨i0, i0 + 1, es.map avStr, rfl, rfl, rfl, rfl, by omega, by omega, Mut.refl _ _, hg, by simp, by rw [hf1]; simp; omega, by rw [hf1, List.map_take], fun _ _ => rfl, rfl⟩
    · rintro q ρ K ⟨i, j, all, h0, h1, h5, h6, hij, hj, hM, hgK, hal, hi, ht, hr, rfl⟩
      have hltK := hget_lt hgK
      by_cases hjl : j < es.length
      · have hjl' : (j : Int) < es.length := by omega
        have i1 := aiaddr_ra00 (sz := 1) (id := id) hjl
        have l1 := aload_ep1 hgK (i := j) (s := es[j]) (by rw [hr j (Nat.le_refl _)]; simp [List.getElem?_eq_getElem hjl])
        have q3 := hp K hM es[j] (List.getElem_mem hjl)
        have hw : IntKind.wrap .i64 ((j : Int) + 1) = ((j + 1 : Nat) : Int) := by rw [wrap64 (by omega) (by omega)]; omega
        have hw2 : IntKind.wrap .i64 ((i : Int) + 1) = ((i + 1 : Nat) : Int) := by rw [wrap64 (by omega) (by omega)]; omega
        have hsn : ((es.take (j + 1)).filter fun e => !pd e) = ((es.take j).filter fun e => !pd e) ++ (if pd es[j] then [] else [es[j]]) := by
          rw [List.take_succ_eq_append_getElem hjl, List.filter_append]
          congr 1
          cases hc : pd es[j] <;> simp [hc]
        cases hc : pd es[j]
        · rw [hc] at q3 hsn
          simp only [Bool.false_eq_true, if_false] at hsn
          have hil : i < es.length := by omega
          have i3 := aiaddr_ra00 (sz := 1) (id := id) hil
          have s3 := astore_ep1 hgK (i := i) (s := es[j]) (by omega)
          simp [L_slices_DeleteFunc_sl_string_string_1, h0, h1, h5, h6, hjl', i1, l1, q3, i3, s3, hw, hw2, -hset_d, -Int.natCast_add]
          refine ⟨es.length - (j + 1), by omega, ⟨i + 1, j + 1, all.set i (avStr es[j]), h0, h1, rfl, rfl, by omega, by omega, hM.set (.inl (by simp)), by rw [hget_hset, if_pos rfl, if_pos hltK], by simpa using hal, by rw [hsn]; simp [hi], ?_, fun k hk => ?_, rfl⟩⟩
          · rw [hsn, List.map_append, ← ht]
            apply List.ext_getElem?
            intro k
            rw [List.getElem?_take]
            have hil2 : (all.take i).length = i := by simp; omega
            by_cases hki : k < i
            · rw [if_pos (by omega), List.getElem?_append_left (by omega), List.getElem?_set_ne (by omega), List.getElem?_take, if_pos hki]
            · by_cases hki2 : k = i
              · subst hki2
                rw [if_pos (by omega), List.getElem?_append_right (by omega), hil2, List.getElem?_set_self (by omega)]
                simp
              · rw [if_neg (by omega), List.getElem?_eq_none (by simp [hil2]; omega)]
          · rw [List.getElem?_set_ne (by omega)]
            exact hr k (by omega)
        · rw [hc] at q3 hsn
          simp only [if_true, List.append_nil] at hsn
          simp [L_slices_DeleteFunc_sl_string_string_1, h0, h1, h5, h6, hjl', i1, l1, q3, hw, -Int.natCast_add]
          exact ⟨es.length - (j + 1), by omega, ⟨i, j + 1, all, h0, h1, h5, rfl, by omega, by omega, hM, hgK, hal, by rw [hsn]; exact hi, by rw [hsn]; exact ht, fun k hk => hr k (by omega), rfl⟩⟩
      · have hjn : j = es.length := by omega
        subst hjn
        rw [List.take_length] at hi ht
        have f1 := aslice_ra_from (id := id) (n := es.length) (k := i) (by omega)
        have f2 := aslice_ra_upto (id := id) (n := es.length) (k := i) (by omega)
        have f3 := aClear_ra (K := K) (id := id) (j := i) (n := es.length - i) (z := .lit (.string (mkS []))) rfl rfl hgK (by omega) (by omega)
        simp [L_slices_DeleteFunc_sl_string_string_1, K_slices_DeleteFunc_sl_string_string_1, h0, h1, h5, h6, f1, f2, f3, -hset_d]
        rw [settle_wrote (hset_wrote hlt), hR]
        have hm2 := (hM.set (i := id) (o := some (.arr 1 (all.take i ++ (List.replicate (es.length - i) (.lit (.string (mkS []))) ++ all.drop (i + (es.length - i)))) t)) (.inl (by simp))).settled
        refine ⟨by rw [hi], all.take i ++ (List.replicate (es.length - i) (.lit (.string (mkS []))) ++ all.drop (i + (es.length - i))), hm2, ?_, ?_, ?_⟩
        · simp only [Option.getD_some]
          rw [hget_l, hget_hset, if_pos rfl, if_pos hltK]
        · rw [hi]
          simp only [List.length_append, List.length_take, List.length_replicate]
          omega
        · rw [hi, List.take_append_of_le_length (by simp; omega), List.take_of_length_le (by simp; omega)]
          exact ht

theorem Users_call (h : DepC Γ A N) (hi : NetI X H t p m l f) (name : Bs) :
    ∃ x g, (lim Γ A).call (f_p_deps_Net_Users N) [.ptr p 0, avStr name] H = some (x, g) ∧ Mut H (g.getD H) [] ∧ Vw (g.getD H) 1 x (((sortB (l.map Prod.fst)).filter fun s => decide (name ∈ (f s).getD [])).map avStr) := by
  obtain ⟨R, hR⟩ : ∃ R : AV × Option Hp → Prop, R = fun r => Mut H (r.2.getD H) [] ∧ Vw (r.2.getD H) 1 r.1 (((sortB (l.map Prod.fst)).filter fun s => decide (name ∈ (f s).getD [])).map avStr) := ⟨_, rfl⟩
  suffices ∃ r, (lim Γ A).call (f_p_deps_Net_Users N) [.ptr p 0, avStr name] H = some r ∧ R r by
    obtain ⟨⟨v, g⟩, e, hr⟩ := this
    rw [hR] at hr
    exact ⟨v, g, e, hr⟩
  obtain ⟨H2, hH2⟩ : ∃ H2, H2 = halloc (halloc { l := H.l, d := none } (.cells [.ptr p 0] (t_p_deps_Net N))) (.cells [avStr name] (t_string N)) := ⟨_, rfl⟩
  have M2 : Mut { l := H.l, d := none } H2 [] := by rw [hH2]; exact ((Mut.refl _ []).alloc _).alloc _
  have b1 : hget H2 H.l.length = some (.cells [.ptr p 0] (t_p_deps_Net N)) := by rw [hH2]; simp
  have b2 : hget H2 (H.l.length + 1) = some (.cells [avStr name] (t_string N)) := by rw [hH2]; simp
  obtain ⟨x, g, n1, n2, n3, n4⟩ := Names_call h ((hi.dd none).still M2)
  obtain ⟨G, hG⟩ : ∃ G, G = g.getD H2 := ⟨_, rfl⟩
  rw [← hG] at n2 n3
  have hMG : Mut { l := H.l, d := none } G [] := M2.trans n2 (by simp)
  have hkl : (sortB (l.map Prod.fst)).length < 2 ^ 40 := by rw [(sortB_perm _).length_eq]; have := hi.sz; simp; omega
  have hpu : ∀ K W, Mut H2 K W → (∀ i ∈ W, H2.l.length ≤ i) → ∀ e : Bs, callV (lim Γ A) (.fn (f_p_deps_Net_Users_1 N) [] [.ptr H.l.length 0, .ptr (H.l.length + 1) 0]) [avStr e] K = some (avBool (!decide (name ∈ (f e).getD [])), none) := by
    intro K W hW hWl e
    have hni : ∀ i, i < H2.l.length → i ∉ W := fun i h1 h2 => by have := hWl i h2; omega
    have c1 := hW.get' b1 (hni _ (hget_lt b1))
    have c2 := hW.get' b2 (hni _ (hget_lt b2))
    have hK : NetI X K t p m l f := ((hi.dd none).still M2).frame (fun i hiW => by
      have hl2 := hi.lt
      have := hWl i hiW
      have hlen2 := M2.len
      simp only at hlen2
      refine ⟨by omega, by omega, .inr fun sz es e he => ?_⟩
      have := hget_lt he
      omega) hW
    have hcell := hK.cell
    obtain ⟨es, clk, m1, m2, m3, k1, k2⟩ := (hK.dd none).look
    have hcon := contains_gen h.lex ((hK.dd none).rowOf e) name (by have := hK.rowb e; omega)
    have d1 : hget { l := K.l, d := none } H.l.length = some (.cells [.ptr p 0] (t_p_deps_Net N)) := c1
    have d2 : hget { l := K.l, d := none } (H.l.length + 1) = some (.cells [avStr name] (t_string N)) := c2
    have d3 : hget { l := K.l, d := none } p = some (.cells [.map m] t) := hcell
    simp only [callV]
    apply h.users1.call (by rfl)
    simp [C_p_deps_Net_Users_1, d1, d2, d3, k2, hcon]
  apply h.users.callP (by rfl)
  rcases n3 with ⟨rfl, n3⟩ | ⟨id, rfl, n3⟩
  · have hidx := indexFunc_full (H := { l := G.l, d := none }) (fv := .fn (f_p_deps_Net_Users_1 N) [] [.ptr H.l.length 0, .ptr (H.l.length + 1) 0]) (es := []) h.isS (fun e => !decide (name ∈ (f e).getD [])) (x := avNilS) (.inl (.inl ⟨rfl, rfl⟩)) (by simp) (by simp)
    have hdel : (lim Γ A).call (f_slices_DeleteFunc_sl_string_string N) [avNilS, .fn (f_p_deps_Net_Users_1 N) [] [.ptr H.l.length 0, .ptr (H.l.length + 1) 0]] G = some (avNilS, none) := by
      apply h.del.call (by rfl)
      rcases hidx with ⟨_, e⟩ | ⟨i, e, hi0, _⟩
      · simp [C_slices_DeleteFunc_sl_string_string, e]
      · simp at hi0
    obtain ⟨g', s1, s2, s3⟩ := settle_row2 (H := H) (v := avNilS) (es := []) hMG (.inl (.inl ⟨rfl, rfl⟩))
    subst hG; subst hH2
    simp [C_p_deps_Net_Users, n1, bindH_opt, hdel, s1, -halloc_d]
    rw [hR]
    exact ⟨s2, by rw [n3]; exact s3⟩
  · have hid := n4 _ _ _ rfl
    obtain ⟨g', all, d1, d2, d3, d4, d5⟩ := deleteFunc_call h (fv := .fn (f_p_deps_Net_Users_1 N) [] [.ptr H.l.length 0, .ptr (H.l.length + 1) 0]) (fun e => !decide (name ∈ (f e).getD [])) n3 (fun K hK e he => by
      have hK2 : Mut G K [id] := ⟨hK.len, hK.old, fun q hq => by have := hK.d q hq; simpa using Or.inr this⟩
      exact hpu K [id] ((n2.weaken2 (by simp)).trans hK2 (fun i hi => .inl hi)) (by simpa using hid) e) hkl
    simp only [Bool.not_not] at d1 d4 d5
    obtain ⟨K, hK⟩ : ∃ K, K = g'.getD G := ⟨_, rfl⟩
    rw [← hK] at d2 d3
    have hMK : Mut { l := H.l, d := none } K [] := hMG.trans d2 (by
      have := M2.len
      simp only at this
      simp only [List.mem_singleton, forall_eq]
      exact .inr (by omega))
    obtain ⟨g2, s1, s2, s3⟩ := settle_row2 (H := H) (v := .ra 1 id 0 ((sortB (l.map Prod.fst)).filter fun s => decide (name ∈ (f s).getD [])).length) (es := ((sortB (l.map Prod.fst)).filter fun s => decide (name ∈ (f s).getD [])).map avStr) hMK (.inr ⟨id, 0, t_string N, all, by simp, d3, by simpa using d4, by simpa using d5⟩)
    subst hK; subst hG; subst hH2
    simp [C_p_deps_Net_Users, n1, bindH_opt, d1, s1, -halloc_d]
    rw [hR]
    exact ⟨s2, s3⟩

end
end Go.Proofs.Eng
/- The engine, part AW: two summaries together; summaries of functions that come to one result whatever is drawn. -/
set_option linter.unusedVariables false
set_option linter.unusedSimpArgs false
namespace Go.Proofs.Eng
open Go Go.RowKit
/-- Two summaries. -/
def orS (a b : Sums) : Sums := fun f args H => match a f args H with
  | some r => some r
  | none => b f args H
theorem orS_ok {P : Program} {a b : Sums} (ha : GOK P a) (hb : GOK P b) : GOK P (orS a b) := by
  have key : ∀ {f : FuncId} {args : List AV} {H : Hp} {r : AV × Option Hp}, orS a b f args H = some r → a f args H = some r ∨ b f args H = some r := by
    intro f args H r e
    unfold orS at e
    split at e
    · rename_i r' hr; rw [e] at hr; exact .inl hr
    · exact .inr e
  refine ⟨fun f args H v h e => ?_, fun {f args H v h ι w cargs} hr hx e => ?_⟩
  · rcases key e with e | e
    · exact ha.le _ _ _ _ _ e
    · exact hb.le _ _ _ _ _ e
  · rcases key e with e | e
    · exact ha.call hr hx e
    · exact hb.call hr hx e
theorem orS_left {a b : Sums} {f : FuncId} {args : List AV} {H : Hp} {r : AV × Option Hp} (h : a f args H = some r) : orS a b f args H = some r := by simp [orS, h]
theorem orS_right {a b : Sums} {f : FuncId} {args : List AV} {H : Hp} {r : AV × Option Hp} (h0 : a f args H = none) (h : b f args H = some r) : orS a b f args H = some r := by simp [orS, h0, h]
theorem orS_none {a b : Sums} {f : FuncId} {args : List AV} {H : Hp} (h0 : a f args H = none) (h : b f args H = none) : orS a b f args H = none := by simp [orS, h0, h]

/-- Functions that come to one result whatever is drawn. -/
theorem spec_ok {P : Program} {Γ Γ' : Sums} {A : Tab} {D : FuncId → Option DFunc} (hΓ : GOK P Γ) (hT : TOK P A) (hD : TOKD P D)
    (h : ∀ f args H v g, Γ' f args H = some (v, g) → Le? H g ∧ ∃ df, D f = some df ∧ DRunP noC Γ A df args H fun r => r = (v, g)) : GOK P Γ' := by
  refine ⟨fun f args H v g e => (h _ _ _ _ _ e).1, fun {f args H v g ι w cargs} hr ha e => ?_⟩
  obtain ⟨_, df, e1, e2⟩ := h _ _ _ _ _ e
  obtain ⟨hint, fn, h1, h2⟩ := hD _ _ e1
  obtain ⟨q1, q2⟩ := entDP_sound noC_ok hΓ hT h1 h2 hr ha e2
  refine Enters.upon ⟨q1, CallsIn.mono q2 fun en w' he => ?_⟩
  cases en with
  | returned cv =>
    obtain ⟨v', g', e, hl⟩ := he
    cases e
    exact hl
  | panicked c => exact he
  | outgrown => exact he
end Go.Proofs.Eng
/- A function that is run for whatever is drawn, as the engine takes it. Printed by tm.py. -/
set_option linter.unusedVariables false
set_option maxRecDepth 100000
namespace Go.Proofs.Eng
open Go

def DM_law24_insert_1 (N : Nat → Nat) : AC :=
     .seq (
      .seq (
       .ops [⟨(some 6), .mov (.t 5), none⟩, ⟨(some 7), .mov (.t 0), none⟩, ⟨(some 8), .len (.t 7), none⟩, ⟨(some 9), .bin .lss (.t 6) (.t 8), none⟩, ⟨(some 10), .mov (.t 9), none⟩, ⟨(some 11), .mov (.t 0), (some (10, true))⟩, ⟨(some 12), .mov (.t 5), (some (10, true))⟩, ⟨(some 13), .iaddr 1 (.t 11) (.t 12), (some (10, true))⟩, ⟨(some 14), .load none (.t 13), (some (10, true))⟩, ⟨(some 15), .mov (.t 1), (some (10, true))⟩, ⟨(some 16), .bin .lss (.t 14) (.t 15), (some (10, true))⟩, ⟨(some 17), .pick (.t 10) (.t 16) (.c (.lit (.bool false))), none⟩]) (
      .cond (.t 17) (
       .skip) (
       .exit 0))) (
     .block 1 (
      .ops [⟨(some 18), .mov (.t 5), none⟩, ⟨(some 19), .bin .add (.t 18) (.c (.lit (.int .i64 1))), none⟩, ⟨(some 5), .mov (.t 19), none⟩]))
def DM_law24_insert_2 (N : Nat → Nat) : AC :=
   .dops 6 [⟨(some 34), .mov (.t 0), none⟩, ⟨(some 35), .mov (.t 5), none⟩, ⟨(some 36), .slice 1 (.t 34) none (some (.t 35)), none⟩, ⟨(some 38), .mov (.t 1), none⟩, ⟨(some 39), .bslice (t_string N) 1 none 1 [(.lit (.string (mkS [])))] [(0, 1, (.t 38))], none⟩, ⟨(some 33), .bslice (t_string N) 1 none 0 [(.lit (.string (mkS [])))] [], none⟩, ⟨(some 37), .append (t_string N) 1 16 (.t 33) (.t 36), none⟩, ⟨(some 40), .append (t_string N) 1 16 (.t 37) (.t 39), none⟩, ⟨(some 41), .mov (.t 0), none⟩, ⟨(some 42), .mov (.t 5), none⟩, ⟨(some 43), .slice 1 (.t 41) (some (.t 42)) none, none⟩, ⟨(some 44), .append (t_string N) 1 16 (.t 40) (.t 43), none⟩, ⟨(some 4), .mov (.t 44), none⟩] [0, 0, 0, 0, 0, 0, 0, 0, 0, 0, 0, 0, 0] []
def DM_law24_insert_3 (N : Nat → Nat) : AC :=
   .dops 6 [⟨(some 33), .bslice (t_string N) 1 none 0 [(.lit (.string (mkS [])))] [], none⟩, ⟨(some 34), .mov (.t 0), none⟩, ⟨(some 35), .mov (.t 5), none⟩, ⟨(some 36), .slice 1 (.t 34) none (some (.t 35)), none⟩, ⟨(some 38), .mov (.t 1), none⟩, ⟨(some 39), .bslice (t_string N) 1 none 1 [(.lit (.string (mkS [])))] [(0, 1, (.t 38))], none⟩, ⟨(some 37), .append (t_string N) 1 16 (.t 33) (.t 36), none⟩, ⟨(some 40), .append (t_string N) 1 16 (.t 37) (.t 39), none⟩, ⟨(some 41), .mov (.t 0), none⟩, ⟨(some 42), .mov (.t 5), none⟩, ⟨(some 43), .slice 1 (.t 41) (some (.t 42)) none, none⟩, ⟨(some 44), .append (t_string N) 1 16 (.t 40) (.t 43), none⟩, ⟨(some 4), .mov (.t 44), none⟩] [0, 0, 0, 0, 0, 0, 0, 0, 0, 0, 0, 0, 0] []
def DM_law24_insert_4 (N : Nat → Nat) : AC :=
   .dops 6 [⟨(some 33), .bslice (t_string N) 1 none 0 [(.lit (.string (mkS [])))] [], none⟩, ⟨(some 34), .mov (.t 0), none⟩, ⟨(some 35), .mov (.t 5), none⟩, ⟨(some 36), .slice 1 (.t 34) none (some (.t 35)), none⟩, ⟨(some 37), .append (t_string N) 1 16 (.t 33) (.t 36), none⟩, ⟨(some 38), .mov (.t 1), none⟩, ⟨(some 39), .bslice (t_string N) 1 none 1 [(.lit (.string (mkS [])))] [(0, 1, (.t 38))], none⟩, ⟨(some 40), .append (t_string N) 1 16 (.t 37) (.t 39), none⟩, ⟨(some 41), .mov (.t 0), none⟩, ⟨(some 42), .mov (.t 5), none⟩, ⟨(some 43), .slice 1 (.t 41) (some (.t 42)) none, none⟩, ⟨(some 44), .append (t_string N) 1 16 (.t 40) (.t 43), none⟩, ⟨(some 4), .mov (.t 44), none⟩] [0, 0, 0, 0, 0, 0, 0, 0, 0, 0, 0, 0, 0] []
def DK_law24_insert_2 (N : Nat → Nat) : DC :=
 .base (
  .ret)
def DK_law24_insert_1 (N : Nat → Nat) : DC :=
 .seq (
  .base (
   .seq (
    .ops [⟨(some 20), .mov (.t 5), none⟩, ⟨(some 21), .mov (.t 0), none⟩, ⟨(some 22), .len (.t 21), none⟩, ⟨(some 23), .bin .lss (.t 20) (.t 22), none⟩, ⟨(some 24), .mov (.t 23), none⟩, ⟨(some 25), .mov (.t 0), (some (24, true))⟩, ⟨(some 26), .mov (.t 5), (some (24, true))⟩, ⟨(some 27), .iaddr 1 (.t 25) (.t 26), (some (24, true))⟩, ⟨(some 28), .load none (.t 27), (some (24, true))⟩, ⟨(some 29), .mov (.t 1), (some (24, true))⟩, ⟨(some 30), .eq false .pstr (.t 28) (.t 29), (some (24, true))⟩, ⟨(some 31), .pick (.t 24) (.t 30) (.c (.lit (.bool false))), none⟩]) (
   .cond (.t 31) (
    .seq (
     .ops [⟨(some 32), .mov (.t 0), none⟩, ⟨(some 4), .mov (.t 32), none⟩]) (
    .ret)) (
    .skip)))) (
 .seq (
  .alts [(DM_law24_insert_2 N),
(DM_law24_insert_3 N),
(DM_law24_insert_4 N)]) (DK_law24_insert_2 N))
def hint_law24_insert : Nat → Option AltT := fun k => match k with | 6 => some (.split 6 0 (.perm [1, 2, 3, 5, 6, 0, 4, 7, 8, 9, 10, 11, 12] [5, 0, 1, 2, 6, 3, 4, 7, 8, 9, 10, 11, 12] .leaf) (.split 6 4 (.perm [0, 1, 2, 3, 5, 6, 4, 7, 8, 9, 10, 11, 12] [0, 1, 2, 3, 6, 4, 5, 7, 8, 9, 10, 11, 12] .leaf) .leaf)) | _ => none
/-- azimuth/azimuthlaw24.insert -/
def D_law24_insert (N : Nat → Nat) : DFunc := ⟨45, [.inl 4],
 .seq (
  .base (
   .ops [⟨(some 4), .mov (.c (.lit (.slice none 0 0))), none⟩])) (
 .seq (
  .base (
   .ops [⟨(some 5), .mov (.c (.lit (.int .i64 0))), none⟩])) (
 .seq (
  .base (
   .block 0 (
    .loop (DM_law24_insert_1 N)))) (DK_law24_insert_1 N))), true⟩
end Go.Proofs.Eng
/- A name put into a rising row: run for whatever is drawn; it comes to one result. -/
set_option linter.unusedVariables false
set_option linter.unusedSimpArgs false
set_option maxRecDepth 100000
namespace Go.Proofs.Eng
open Go
section
variable {Γ : Sums} {A : Tab} {N : Nat → Nat} {C : DCalls} {H : Hp}
inductive InsI (x : AV) (ks : List Bs) (s : Bs) (H0 : Hp) (q : Nat) (ρ : Rho) (H : Hp) : Prop where
  | mk (i : Nat) (h0 : ρ 0 = x) (h1 : ρ 1 = avStr s) (h5 : ρ 5 = avInt .i64 (i : Nat)) (hi : i ≤ ks.length) (hH : H = H0) (hlt : ∀ j, j < i → ∃ y, ks[j]? = some y ∧ y < s) (hq : q = ks.length - i)
def insR (x : AV) (ks : List Bs) (s : Bs) : AV × Option Hp := if insF ks s = true then (x, none) else (.sl 1 ((insP ks s).map avStr), none)
theorem app_row {K : Hp} {id n : Nat} {es ys : List AV} (hg : hget K id = some (.arr 1 es (t_string N))) (hn : es.length = n) (hl : (n + ys.length) * 16 ≤ roomMax) (hy : ys.all (fun y => y.good && y.cells.length == 1) = true) :
    ∃ K', appendOn K (t_string N) 1 16 (.ra 1 id 0 n) ys = some (.ra 1 K.l.length 0 (n + ys.length), some K') ∧ hget K' K.l.length = some (.arr 1 (es ++ ys) (t_string N)) ∧ Mut K K' [id] ∧ K'.l.length = K.l.length + 1 ∧ ∀ j, j < K.l.length → j ≠ id → hget K' j = hget K j := by
  subst hn
  have hlt := hget_lt hg
  refine ⟨_, appendOn_ra (bytes := 16) hg hl hy, by rw [hget_halloc, if_pos (by simp)], ((Mut.refl K [id]).set (.inl (by simp))).alloc _, by simp, fun j hj hne => ?_⟩
  rw [hget_halloc, if_neg (by simp; omega), hget_hset, if_neg hne]
theorem all_str (l : List Bs) : (l.map avStr).all (fun y => y.good && y.cells.length == 1) = true := by
  rw [List.all_eq_true]
  intro y hy
  obtain ⟨b, _, rfl⟩ := List.mem_map.1 hy
  rfl
theorem settleZ_rowN {H H1 : Hp} {es : List AV} {t : TypeId} {id m : Nat} (hk : keeps H H1 = true) (h0 : H.l.length ≤ id) (h1 : hget H1 id = some (.arr 1 es t)) (hm : m = es.length) (hl : ∀ x ∈ es, ∃ v, x = .lit v) : settleZ true H (.ra 1 id 0 m) H1 = (.sl 1 es, none) := by
  subst hm
  have hL : H1.l[id]? = some (some (.arr 1 es t)) := hget_some h1
  have hmm : ∀ l : List AV, (∀ x ∈ l, ∃ v, x = .lit v) → l.mapM (frz H1.l H.l.length 15) = some l := by
    intro l
    induction l with
    | nil => intro _; rfl
    | cons a r ih =>
      intro h
      obtain ⟨v, rfl⟩ := h a (by simp)
      rw [List.mapM_cons, ih (fun x hx => h x (by simp [hx]))]
      rfl
  have hf : frz H1.l H.l.length 16 (.ra 1 id 0 es.length) = some (.sl 1 es) := by
    show (if id < H.l.length then _ else _) = _
    rw [if_neg (by omega), hL]
    simp only [Option.getD_some]
    rw [if_pos ⟨trivial, by omega⟩, List.drop_zero, List.take_length, hmm es hl]
    rfl
  simp [settleZ, hk, hf]
theorem ins_fin {y2 : AV} {ks : List Bs} {s : Bs} {i a c : Nat} {K1 : Hp} (hi : i ≤ ks.length) (hl : ks.length < 2 ^ 30) (b2 : Vw { l := H.l, d := none } 1 y2 ((ks.drop i).map avStr)) (hM : Mut { l := H.l, d := none } K1 []) (hc : hget K1 c = some (.arr 1 ((ks.take i).map avStr) (t_string N))) (ha : hget K1 a = some (.arr 1 [avStr s] (t_string N))) (hcl : H.l.length ≤ c) (hins : insP ks s = ks.take i ++ s :: ks.drop i) :
    ∃ K2 K3, asElems K1 (.ra 1 a 0 1) = some [avStr s] ∧ appendOn K1 (t_string N) 1 16 (.ra 1 c 0 i) [avStr s] = some (.ra 1 K1.l.length 0 (i + 1), some K2) ∧ asElems K2 y2 = some ((ks.drop i).map avStr) ∧
      appendOn K2 (t_string N) 1 16 (.ra 1 K1.l.length 0 (i + 1)) ((ks.drop i).map avStr) = some (.ra 1 K2.l.length 0 (i + 1 + (ks.length - i)), some K3) ∧ settleZ true H (.ra 1 K2.l.length 0 (i + 1 + (ks.length - i))) K3 = (.sl 1 ((insP ks s).map avStr), none) := by
  obtain ⟨K2, p1, p2, p3, p4, p5⟩ := app_row (n := i) hc (by simp; omega) (ys := [avStr s]) (by unfold roomMax; simp; omega) (by simp)
  have hM2 : Mut { l := H.l, d := none } K2 [] := hM.trans p3 (by simpa using hcl)
  have hK1 := hM.len
  simp only at hK1
  obtain ⟨K3, q1, q2, q3, q4, q5⟩ := app_row (n := i + 1) p2 (by simp; omega) (ys := (ks.drop i).map avStr) (by unfold roomMax; simp; omega) (all_str _)
  have hM3 : Mut { l := H.l, d := none } K3 [] := hM2.trans q3 (by simpa using hK1)
  have hK2 := hM2.len
  simp only at hK2
  refine ⟨K2, K3, by simp [asElems, ha], by simpa using p1, (hM2.vw b2 (by simp)).elems, by simpa using q1, ?_⟩
  have := settleZ_rowN (H := H) (m := i + 1 + (ks.length - i)) (hM3.keeps rfl) hK2 q2 (by simp; omega) (fun x hx => by
    simp only [List.mem_append, List.mem_map, List.mem_singleton] at hx
    rcases hx with (⟨_, _, rfl⟩ | rfl) | ⟨_, _, rfl⟩ <;> exact ⟨_, rfl⟩)
  rw [this, hins]
  simp
theorem insert_run {x : AV} {ks : List Bs} {s : Bs} (hx : Vw H 1 x (ks.map avStr)) (hl : ks.length < 2 ^ 30) :
    DRunP C Γ A (D_law24_insert N) [x, avStr s] H fun r => r = insR x ks s := by
  obtain ⟨R, hR⟩ : ∃ R : AV × Option Hp → Prop, R = fun r => r = insR x ks s := ⟨_, rfl⟩
  rw [← hR]
  have hlen := hx.len
  simp only [List.length_map] at hlen
  have hx0 := hx.dd none
  have hfz : frz H.l H.l.length 16 x = some x := hx.frz (fun e he => by obtain ⟨y, _, rfl⟩ := List.mem_map.1 he; exact ⟨_, rfl⟩)
  have alts : ∀ {ρ : Rho} {its : Its} (i : Nat), i ≤ ks.length → True → ρ 0 = x → ρ 1 = avStr s → ρ 5 = avInt .i64 (i : Nat) → True → insF ks s = false → insP ks s = ks.take i ++ s :: ks.drop i → wpR C (lim Γ A) (DC.alts [DM_law24_insert_2 N, DM_law24_insert_3 N, DM_law24_insert_4 N]) ρ { l := H.l, d := none } its (seqD C (lim Γ A) (DK_law24_insert_2 N) (EndsD [Sum.inl 4] true H R)) := by
    intro ρ its i hi _ h0 h1 h5 _ hf hins
    have hil : ks.length < 2 ^ 40 := by omega
    have hres : R (.sl 1 ((insP ks s).map avStr), none) := by rw [hR]; simp [insR, hf]
    obtain ⟨y1, a1, a2⟩ := hx0.upto (k' := .i64) (j := (i : Int)) (by omega) (by simp; omega)
    obtain ⟨y2, b1, b2⟩ := hx0.from' (k := .i64) (i := (i : Int)) (by omega) (by simp; omega)
    simp only [Int.toNat_natCast, ← List.map_take, ← List.map_drop] at a2 b2
    refine wpR_alts (by simp) fun cc hcc => ?_
    simp only [List.mem_cons, List.not_mem_nil, or_false] at hcc
    rcases hcc with rfl | rfl | rfl
    · have hA : Mut { l := H.l, d := none } (halloc (halloc { l := H.l, d := none } (.arr 1 [avStr s] (t_string N))) (.arr 1 [] (t_string N))) [] := ((Mut.refl _ []).alloc _).alloc _
      obtain ⟨K1, p1, p2, p3, p4, p5⟩ := app_row (N := N) (K := halloc (halloc { l := H.l, d := none } (.arr 1 [avStr s] (t_string N))) (.arr 1 [] (t_string N))) (id := H.l.length + 1) (n := 0) (es := []) (ys := (ks.take i).map avStr) (by simp) rfl (by unfold roomMax; simp; omega) (all_str _)
      have hM1 := hA.trans p3 (by simp)
      have e1 := (hA.vw a2 (by simp)).elems
      obtain ⟨K2, K3, g1, g2, g3, g4, g5⟩ := ins_fin (N := N) (a := H.l.length) (c := H.l.length + 1 + 1) hi hl b2 hM1 (by simpa using p2) (by rw [p5 _ (by simp) (by omega)]; simp) (by omega) hins
      have hmin : min i ks.length = i := Nat.min_eq_left hi
      simp [hmin, -List.map_take] at p1 p4
      rw [p4] at g2 g4
      simp [DM_law24_insert_2, DK_law24_insert_2, h0, h1, h5, a1, b1, fillA, repl, setFrom, chunk, e1, p1, bindH_opt, g1, g2, g3, g4, g5, -hset_d, -halloc_d, -List.map_drop, -List.map_take]
      exact hres
    · have hA : Mut { l := H.l, d := none } (halloc (halloc { l := H.l, d := none } (.arr 1 [] (t_string N))) (.arr 1 [avStr s] (t_string N))) [] := ((Mut.refl _ []).alloc _).alloc _
      obtain ⟨K1, p1, p2, p3, p4, p5⟩ := app_row (N := N) (K := halloc (halloc { l := H.l, d := none } (.arr 1 [] (t_string N))) (.arr 1 [avStr s] (t_string N))) (id := H.l.length) (n := 0) (es := []) (ys := (ks.take i).map avStr) (by simp) rfl (by unfold roomMax; simp; omega) (all_str _)
      have hM1 := hA.trans p3 (by simp)
      have e1 := (hA.vw a2 (by simp)).elems
      obtain ⟨K2, K3, g1, g2, g3, g4, g5⟩ := ins_fin (N := N) (a := H.l.length + 1) (c := H.l.length + 1 + 1) hi hl b2 hM1 (by simpa using p2) (by rw [p5 _ (by simp) (by omega)]; simp) (by omega) hins
      have hmin : min i ks.length = i := Nat.min_eq_left hi
      simp [hmin, -List.map_take] at p1 p4
      rw [p4] at g2 g4
      simp [DM_law24_insert_3, DK_law24_insert_2, h0, h1, h5, a1, b1, fillA, repl, setFrom, chunk, e1, p1, bindH_opt, g1, g2, g3, g4, g5, -hset_d, -halloc_d, -List.map_drop, -List.map_take]
      exact hres
    · have hA : Mut { l := H.l, d := none } (halloc { l := H.l, d := none } (.arr 1 [] (t_string N))) [] := (Mut.refl _ []).alloc _
      obtain ⟨K1, p1, p2, p3, p4, p5⟩ := app_row (N := N) (K := halloc { l := H.l, d := none } (.arr 1 [] (t_string N))) (id := H.l.length) (n := 0) (es := []) (ys := (ks.take i).map avStr) (by simp) rfl (by unfold roomMax; simp; omega) (all_str _)
      have hM1 := (hA.trans p3 (by simp)).alloc (.arr 1 [avStr s] (t_string N))
      have e1 := (hA.vw a2 (by simp)).elems
      obtain ⟨K2, K3, g1, g2, g3, g4, g5⟩ := ins_fin (N := N) (a := K1.l.length) (c := H.l.length + 1) hi hl b2 hM1 (by rw [hget_halloc, if_neg (by rw [p4]; simp)]; simpa using p2) (by simp) (by omega) hins
      have hmin : min i ks.length = i := Nat.min_eq_left hi
      simp [hmin, -List.map_take] at p1 p4
      simp [p4, -List.map_drop] at g1 g2 g4
      simp [DM_law24_insert_4, DK_law24_insert_2, h0, h1, h5, a1, b1, fillA, repl, setFrom, chunk, e1, p1, p4, bindH_opt, g1, g2, g3, g4, g5, -hset_d, -halloc_d, -List.map_drop, -List.map_take]
      exact hres
  apply DRunP.of (by rfl)
  simp [D_law24_insert]
  refine wp_round (n := ks.length) (InsI x ks s { l := H.l, d := none }) ?_ ?_
  · exact ⟨0, rfl, rfl, rfl, by omega, rfl, fun j hj => by omega, rfl⟩
  · rintro q ρ H' ⟨i, h0, h1, h5, hi, rfl, hlt, rfl⟩
    have hw : IntKind.wrap .i64 ((i : Int) + 1) = ((i + 1 : Nat) : Int) := by rw [wrap64 (by omega) (by omega)]; omega
    by_cases hil : i < ks.length
    · have hil' : (i : Int) < ks.length := by omega
      obtain ⟨qa, t1, t2⟩ := hx0.at' (k := .i64) (i := (i : Int)) (e := avStr ks[i]) (by omega) (by simp [List.getElem?_eq_getElem hil]) rfl rfl rfl
      by_cases hc : ks[i] < s
      · have hcb : Op.bytesLess ks[i] s = true := by rw [bytesLess_eq]; simpa using hc
        simp [DM_law24_insert_1, h0, h1, h5, hlen, hil', t1, t2, hcb, hw, -Int.natCast_add]
        refine ⟨ks.length - (i + 1), by omega, ⟨i + 1, h0, h1, rfl, by omega, rfl, fun j hj => ?_, rfl⟩⟩
        by_cases hji : j < i
        · exact hlt j hji
        · have : j = i := by omega
          subst this
          exact ⟨_, List.getElem?_eq_getElem hil, hc⟩
      · have hcb : Op.bytesLess ks[i] s = false := by rw [bytesLess_eq]; simpa using hc
        obtain ⟨c1, c2⟩ := insP_cut (s := s) hi hlt (fun x hx => by rw [List.getElem?_eq_getElem hil] at hx; cases hx; exact hc)
        rw [List.getElem?_eq_getElem hil, Option.some.injEq] at c1
        by_cases he : ks[i] = s
        · have hf : insF ks s = true := c1.2 he
          have hcs : Op.bytesLess s s = false := by rw [he] at hcb; exact hcb
          simp [DM_law24_insert_1, DK_law24_insert_1, h0, h1, h5, hlen, hil', t1, t2, he, hcs]
          rw [hR]
          simp [insR, hf, settleZ, keeps, hfz]
        · have hf : insF ks s = false := by
            cases hb : insF ks s
            · rfl
            · exact absurd (c1.1 hb) he
          simp [DM_law24_insert_1, DK_law24_insert_1, h0, h1, h5, hlen, hil', t1, t2, hcb, he]
          exact alts i hi trivial h0 h1 h5 trivial hf (c2 hf)
    · have hin : i = ks.length := by omega
      subst hin
      obtain ⟨c1, c2⟩ := insP_cut (s := s) hi hlt (fun x hx => by simp at hx)
      have hf : insF ks s = false := by
        cases hb : insF ks s
        · rfl
        · have := c1.1 hb; simp at this
      simp [DM_law24_insert_1, DK_law24_insert_1, h0, h1, h5, hlen]
      exact alts _ hi trivial h0 h1 h5 trivial hf (c2 hf)
end
end Go.Proofs.Eng
/- A function that is run for whatever is drawn, as the engine takes it. Printed by tm.py. -/
set_option linter.unusedVariables false
set_option maxRecDepth 100000
namespace Go.Proofs.Eng
open Go

def DM_law24_is_1 (N : Nat → Nat) : AC :=
         .seq (
          .ops [⟨(some 45), .bin .lss (.t 44) (.t 43), none⟩]) (
         .seq (
          .cond (.t 45) (
           .skip) (
           .exit 2)) (
         .seq (
          .block 3 (
           .seq (
            .ops [⟨(some 46), .iaddr 1 (.t 42) (.t 44), none⟩, ⟨(some 47), .load none (.t 46), none⟩, ⟨(some 13), .mov (.t 47), none⟩]) (
           .seq (
            .seq (
             .ops [⟨(some 49), .mov (.t 1), none⟩, ⟨(some 50), .mov (.t 13), none⟩, ⟨(some 51), .lookup .string (.lit (.slice none 0 0)) (.t 49) (.t 50) true, none⟩, ⟨(some 48), .mov (.t 51), none⟩, ⟨(some 52), .extract (.t 48) 0, none⟩, ⟨(some 53), .extract (.t 48) 1, none⟩, ⟨(some 14), .mov (.t 52), none⟩, ⟨(some 15), .mov (.t 53), none⟩]) (
            .seq (
             .ops [⟨(some 54), .mov (.t 15), none⟩, ⟨(some 55), .un .not (.t 54), none⟩]) (
            .cond (.t 55) (
             .ops [⟨(some 56), .mov (.t 8), none⟩, ⟨(some 57), .mov (.t 13), none⟩, ⟨(some 58), .call (.c (.fn (f_law24_insert N) [] [])) [(.t 56), (.t 57)], none⟩, ⟨(some 8), .mov (.t 58), none⟩]) (
             .skip)))) (
           .seq (
            .ops [⟨(some 59), .mov (.t 13), none⟩, ⟨(some 60), .mov (.t 2), none⟩, ⟨(some 61), .eq false .pstr (.t 59) (.t 60), none⟩]) (
           .cond (.t 61) (
            .ops [⟨(some 62), .mov (.t 9), none⟩, ⟨(some 63), .mov (.t 10), none⟩, ⟨(some 64), .call (.c (.fn (f_law24_insert N) [] [])) [(.t 62), (.t 63)], none⟩, ⟨(some 9), .mov (.t 64), none⟩]) (
            .skip)))))) (
         .ops [⟨(some 65), .bin .add (.t 44) (.c (.lit (.int .i64 1))), none⟩, ⟨(some 44), .mov (.t 65), none⟩])))
def DL_law24_is_1 (N : Nat → Nat) : DC :=
    .seq (
     .regD [.next 34 (.t 33), .op ⟨(some 35), .extract (.t 34) 0, none⟩]) (
    .seq (
     .base (
      .cond (.t 35) (
       .skip) (
       .exit 0))) (
    .block 1 (
     .seq (
      .regD [.entry 36 (.t 33), .op ⟨(some 37), .extract (.t 36) 0, none⟩, .op ⟨(some 38), .extract (.t 36) 1, none⟩, .op ⟨(some 10), .mov (.t 37), none⟩, .op ⟨(some 11), .mov (.t 38), none⟩]) (
     .base (
      .seq (
       .ops [⟨(some 39), .mov (.t 7), none⟩, ⟨(some 40), .mov (.t 10), none⟩, ⟨(some 41), .call (.c (.fn (f_law24_insert N) [] [])) [(.t 39), (.t 40)], none⟩, ⟨(some 7), .mov (.t 41), none⟩]) (
      .seq (
       .seq (
        .ops [⟨(some 42), .mov (.t 11), none⟩, ⟨(some 43), .len (.t 42), none⟩, ⟨(some 44), .mov (.c (.lit (.int .i64 0))), none⟩]) (
       .block 2 (
        .loop (DM_law24_is_1 N)))) (
      .seq (
       .ops [⟨(some 67), .mov (.t 0), none⟩, ⟨(some 68), .mov (.t 10), none⟩, ⟨(some 69), .call (.c (.fn (f_p_deps_Net_On N) [] [])) [(.t 67), (.t 68)], none⟩, ⟨(some 66), .mov (.t 69), none⟩, ⟨(some 70), .extract (.t 66) 0, none⟩, ⟨(some 71), .extract (.t 66) 1, none⟩, ⟨(some 16), .mov (.t 70), none⟩, ⟨(some 17), .mov (.t 71), none⟩]) (
      .seq (
       .ops [⟨(some 72), .mov (.t 17), none⟩, ⟨(some 73), .un .not (.t 72), none⟩, ⟨(some 74), .mov (.t 73), none⟩, ⟨(some 75), .mov (.t 16), (some (74, false))⟩, ⟨(some 76), .mov (.t 11), (some (74, false))⟩, ⟨(some 77), .call (.c (.fn (f_law07_Same N) [] [])) [(.t 75), (.t 76)], (some (74, false))⟩, ⟨(some 78), .un .not (.t 77), (some (74, false))⟩, ⟨(some 79), .pick (.t 74) (.c (.lit (.bool true))) (.t 78), none⟩]) (
      .cond (.t 79) (
       .seq (
        .ops [⟨(some 6), .mov (.c (.lit (.bool false))), none⟩]) (
       .ret)) (
       .skip))))))))))
def DM_law24_is_4 (N : Nat → Nat) : AC :=
            .seq (
             .ops [⟨(some 101), .bin .lss (.t 100) (.t 99), none⟩]) (
            .seq (
             .cond (.t 101) (
              .skip) (
              .exit 8)) (
            .seq (
             .block 9 (
              .seq (
               .ops [⟨(some 102), .iaddr 1 (.t 98) (.t 100), none⟩, ⟨(some 103), .load none (.t 102), none⟩, ⟨(some 25), .mov (.t 103), none⟩]) (
              .seq (
               .ops [⟨(some 105), .mov (.t 1), none⟩, ⟨(some 106), .mov (.t 25), none⟩, ⟨(some 107), .lookup .string (.lit (.slice none 0 0)) (.t 105) (.t 106) true, none⟩, ⟨(some 104), .mov (.t 107), none⟩, ⟨(some 108), .extract (.t 104) 0, none⟩, ⟨(some 109), .extract (.t 104) 1, none⟩, ⟨(some 26), .mov (.t 108), none⟩, ⟨(some 27), .mov (.t 109), none⟩]) (
              .seq (
               .ops [⟨(some 110), .mov (.t 27), none⟩, ⟨(some 111), .mov (.t 110), none⟩, ⟨(some 112), .mov (.t 18), (some (111, true))⟩, ⟨(some 113), .mov (.t 25), (some (111, true))⟩, ⟨(some 114), .call (.c (.fn (f_law24_insert N) [] [])) [(.t 112), (.t 113)], (some (111, true))⟩, ⟨(some 115), .len (.t 114), (some (111, true))⟩, ⟨(some 116), .mov (.t 18), (some (111, true))⟩, ⟨(some 117), .len (.t 116), (some (111, true))⟩, ⟨(some 118), .bin .gtr (.t 115) (.t 117), (some (111, true))⟩, ⟨(some 119), .pick (.t 111) (.t 118) (.c (.lit (.bool false))), none⟩]) (
              .cond (.t 119) (
               .seq (
                .ops [⟨(some 120), .mov (.t 18), none⟩, ⟨(some 121), .mov (.t 25), none⟩, ⟨(some 122), .call (.c (.fn (f_law24_insert N) [] [])) [(.t 120), (.t 121)], none⟩, ⟨(some 18), .mov (.t 122), none⟩]) (
               .ops [⟨(some 21), .mov (.c (.lit (.bool true))), none⟩])) (
               .skip)))))) (
            .ops [⟨(some 123), .bin .add (.t 100) (.c (.lit (.int .i64 1))), none⟩, ⟨(some 100), .mov (.t 123), none⟩])))
def DM_law24_is_3 (N : Nat → Nat) : AC :=
        .seq (
         .ops [⟨(some 93), .bin .lss (.t 92) (.t 91), none⟩]) (
        .seq (
         .cond (.t 93) (
          .skip) (
          .exit 6)) (
        .seq (
         .block 7 (
          .seq (
           .ops [⟨(some 94), .iaddr 1 (.t 90) (.t 92), none⟩, ⟨(some 95), .load none (.t 94), none⟩, ⟨(some 23), .mov (.t 95), none⟩]) (
          .seq (
           .ops [⟨(some 96), .mov (.t 1), none⟩, ⟨(some 97), .mov (.t 23), none⟩, ⟨(some 98), .lookup .string (.lit (.slice none 0 0)) (.t 96) (.t 97) false, none⟩, ⟨(some 99), .len (.t 98), none⟩, ⟨(some 100), .mov (.c (.lit (.int .i64 0))), none⟩]) (
          .block 8 (
           .loop (DM_law24_is_4 N)))))) (
        .ops [⟨(some 124), .bin .add (.t 92) (.c (.lit (.int .i64 1))), none⟩, ⟨(some 92), .mov (.t 124), none⟩])))
def DM_law24_is_2 (N : Nat → Nat) : AC :=
     .seq (
      .seq (
       .ops [⟨(some 89), .mov (.t 21), none⟩]) (
      .cond (.t 89) (
       .skip) (
       .exit 4))) (
     .block 5 (
      .seq (
       .ops [⟨(some 21), .mov (.c (.lit (.bool false))), none⟩]) (
      .seq (
       .ops [⟨(some 90), .mov (.t 18), none⟩, ⟨(some 91), .len (.t 90), none⟩, ⟨(some 92), .mov (.c (.lit (.int .i64 0))), none⟩]) (
      .block 6 (
       .loop (DM_law24_is_3 N))))))
def DK_law24_is_1 (N : Nat → Nat) : DC :=
 .base (
  .seq (
   .ops [⟨(some 18), .mov (.c (.lit (.slice none 0 0))), none⟩]) (
  .seq (
   .seq (
    .ops [⟨(some 81), .mov (.t 1), none⟩, ⟨(some 82), .mov (.t 2), none⟩, ⟨(some 83), .lookup .string (.lit (.slice none 0 0)) (.t 81) (.t 82) true, none⟩, ⟨(some 80), .mov (.t 83), none⟩, ⟨(some 84), .extract (.t 80) 0, none⟩, ⟨(some 85), .extract (.t 80) 1, none⟩, ⟨(some 19), .mov (.t 84), none⟩, ⟨(some 20), .mov (.t 85), none⟩]) (
   .seq (
    .ops [⟨(some 86), .mov (.t 20), none⟩]) (
   .cond (.t 86) (
    .ops [⟨(some 87), .mov (.t 2), none⟩, ⟨(some 88), .bslice (t_string N) 1 none 1 [(.lit (.string (mkS [])))] [(0, 1, (.t 87))], none⟩, ⟨(some 18), .mov (.t 88), none⟩]) (
    .skip)))) (
  .seq (
   .seq (
    .ops [⟨(some 21), .mov (.c (.lit (.bool true))), none⟩]) (
   .block 4 (
    .loop (DM_law24_is_2 N)))) (
  .seq (
   .ops [⟨(some 126), .mov (.t 1), none⟩, ⟨(some 127), .mov (.t 2), none⟩, ⟨(some 128), .lookup .string (.lit (.slice none 0 0)) (.t 126) (.t 127) true, none⟩, ⟨(some 125), .mov (.t 128), none⟩, ⟨(some 129), .extract (.t 125) 0, none⟩, ⟨(some 130), .extract (.t 125) 1, none⟩, ⟨(some 28), .mov (.t 129), none⟩, ⟨(some 29), .mov (.t 130), none⟩]) (
  .seq (
   .ops [⟨(some 132), .mov (.t 0), none⟩, ⟨(some 133), .mov (.t 2), none⟩, ⟨(some 134), .call (.c (.fn (f_p_deps_Net_On N) [] [])) [(.t 132), (.t 133)], none⟩, ⟨(some 131), .mov (.t 134), none⟩, ⟨(some 135), .extract (.t 131) 0, none⟩, ⟨(some 136), .extract (.t 131) 1, none⟩, ⟨(some 30), .mov (.t 135), none⟩, ⟨(some 31), .mov (.t 136), none⟩]) (
  .seq (
   .ops [⟨(some 137), .mov (.t 31), none⟩, ⟨(some 138), .mov (.t 29), none⟩, ⟨(some 139), .eq false .pbool (.t 137) (.t 138), none⟩, ⟨(some 140), .mov (.t 139), none⟩, ⟨(some 141), .mov (.t 0), (some (140, true))⟩, ⟨(some 142), .call (.c (.fn (f_p_deps_Net_Names N) [] [])) [(.t 141)], (some (140, true))⟩, ⟨(some 143), .mov (.t 7), (some (140, true))⟩, ⟨(some 144), .call (.c (.fn (f_law07_Same N) [] [])) [(.t 142), (.t 143)], (some (140, true))⟩, ⟨(some 145), .pick (.t 140) (.t 144) (.c (.lit (.bool false))), none⟩, ⟨(some 146), .mov (.t 145), none⟩, ⟨(some 147), .mov (.t 0), (some (146, true))⟩, ⟨(some 148), .call (.c (.fn (f_p_deps_Net_Missing N) [] [])) [(.t 147)], (some (146, true))⟩, ⟨(some 149), .mov (.t 8), (some (146, true))⟩, ⟨(some 150), .call (.c (.fn (f_law07_Same N) [] [])) [(.t 148), (.t 149)], (some (146, true))⟩, ⟨(some 151), .pick (.t 146) (.t 150) (.c (.lit (.bool false))), none⟩, ⟨(some 152), .mov (.t 151), none⟩, ⟨(some 153), .mov (.t 0), (some (152, true))⟩, ⟨(some 154), .mov (.t 2), (some (152, true))⟩, ⟨(some 155), .call (.c (.fn (f_p_deps_Net_Users N) [] [])) [(.t 153), (.t 154)], (some (152, true))⟩, ⟨(some 156), .mov (.t 9), (some (152, true))⟩, ⟨(some 157), .call (.c (.fn (f_law07_Same N) [] [])) [(.t 155), (.t 156)], (some (152, true))⟩, ⟨(some 158), .pick (.t 152) (.t 157) (.c (.lit (.bool false))), none⟩, ⟨(some 159), .mov (.t 158), none⟩, ⟨(some 160), .mov (.t 0), (some (159, true))⟩, ⟨(some 161), .mov (.t 2), (some (159, true))⟩, ⟨(some 162), .call (.c (.fn (f_p_deps_Net_Cone N) [] [])) [(.t 160), (.t 161)], (some (159, true))⟩, ⟨(some 163), .mov (.t 18), (some (159, true))⟩, ⟨(some 164), .call (.c (.fn (f_law07_Same N) [] [])) [(.t 162), (.t 163)], (some (159, true))⟩, ⟨(some 165), .pick (.t 159) (.t 164) (.c (.lit (.bool false))), none⟩, ⟨(some 6), .mov (.t 165), none⟩]) (
  .ret)))))))
def hint_law24_is : Nat → Option AltT := fun k => match k with | _ => none
/-- azimuth/azimuthlaw24.is -/
def D_law24_is (N : Nat → Nat) : DFunc := ⟨166, [.inl 6],
 .seq (
  .base (
   .ops [⟨(some 6), .mov (.c (.lit (.bool false))), none⟩])) (
 .seq (
  .base (
   .ops [⟨(some 7), .mov (.c (.lit (.slice none 0 0))), none⟩, ⟨(some 8), .mov (.c (.lit (.slice none 0 0))), none⟩, ⟨(some 9), .mov (.c (.lit (.slice none 0 0))), none⟩])) (
 .seq (
  .seq (
   .regD [.op ⟨(some 32), .mov (.t 1), none⟩, .range 33 (.t 32)]) (
  .block 0 (
   .loop (DL_law24_is_1 N)))) (DK_law24_is_1 N))), false⟩
end Go.Proofs.Eng
/- Does a net tell what a model has? Run for whatever is drawn. -/
set_option linter.unusedVariables false
set_option linter.unusedSimpArgs false
set_option maxRecDepth 100000
namespace Go.Proofs.Eng
open Go
/-- The model's map. -/
structure ModI (H : Hp) (mm : Nat) (lm : List (Bs × AV)) (f : NF) : Prop where
  mp : ∃ es clk, hget H mm = some (.map es clk) ∧ SKeys es ∧ KV es = lm
  nd : (lm.map Prod.fst).Nodup
  dom : ∀ k, (aGet k lm).isSome = (f k).isSome
  row : ∀ k x on, aGet k lm = some x → f k = some on → Vw H 1 x (on.map avStr)
section
variable {Γ : Sums} {A : Tab} {N : Nat → Nat} {C : DCalls} {X : Nat → Prop} {H H' : Hp} {t : TypeId} {p m mm : Nat} {l lm : List (Bs × AV)} {f : NF}
theorem ModI.still (h : ModI H mm lm f) (k : Mut H H' []) : ModI H' mm lm f := by
  obtain ⟨es, clk, h1, h2⟩ := h.mp
  exact ⟨⟨es, clk, k.get' h1 (by simp), h2⟩, h.nd, h.dom, fun y x on hx hy => k.vw (h.row y x on hx hy) (by simp)⟩
theorem ModI.dd (h : ModI H mm lm f) (d : Option Nat) : ModI { l := H.l, d := d } mm lm f :=
  ⟨h.mp, h.nd, h.dom, fun y x on hx hy => (h.row y x on hx hy).dd d⟩
theorem ModI.look (h : ModI H mm lm f) : ∃ es clk, hget H mm = some (.map es clk) ∧ SKeys es ∧ KV es = lm ∧ (∀ (s : Bs) (z : AV), aLookup H .string z true (.string (mkS s)) (.map mm) = some (.tup [(aGet s lm).getD z, avBool (f s).isSome])) ∧ ∀ (s : Bs) (z : AV), aLookup H .string z false (.string (mkS s)) (.map mm) = some ((aGet s lm).getD z) := by
  obtain ⟨es, clk, m1, m2, m3⟩ := h.mp
  refine ⟨es, clk, m1, m2, m3, fun s z => ?_, fun s z => ?_⟩
  · rw [aLookup_str m1 m2, m3, bl_mkS, ← h.dom s]
    unfold aGet
    cases vFind s lm <;> rfl
  · rw [aLookup_str' m1 m2, m3, bl_mkS]
    rfl
theorem ModI.rowOf (h : ModI H mm lm f) (s : Bs) : Vw H 1 ((aGet s lm).getD avNilS) (((f s).getD []).map avStr) := by
  have hd := h.dom s
  cases ha : aGet s lm with
  | none =>
    rw [ha] at hd
    cases hf : f s with
    | none => exact .inl (.inl ⟨rfl, rfl⟩)
    | some on => rw [hf] at hd; cases hd
  | some x =>
    rw [ha] at hd
    obtain ⟨on, hf⟩ := Option.isSome_iff_exists.1 hd.symm
    rw [hf]
    exact h.row s x on ha hf
theorem ModI.keys_iff (h : ModI H mm lm f) (k : Bs) : k ∈ lm.map Prod.fst ↔ (f k).isSome = true := by
  rw [← h.dom k]
  cases ha : aGet k lm with
  | none => simp only [Option.isSome_none, Bool.false_eq_true, iff_false]; exact aGet_none.1 ha
  | some x =>
    simp only [Option.isSome_some, iff_true]
    exact Decidable.byContradiction fun hk => by rw [aGet_none.2 hk] at ha; cases ha

structure IsC (Γ : Sums) (A : Tab) (N : Nat → Nat) : Prop where
  dep : DepC Γ A N
  ins : ∀ {H : Hp} {x : AV} {ks : List Bs}, Vw H 1 x (ks.map avStr) → ks.length < 2 ^ 30 → ∀ s, (lim Γ A).call (f_law24_insert N) [x, avStr s] H = some (insR x ks s)
  same : Has Γ A (f_law07_Same N) (C_law07_Same N)
theorem _root_.Go.Proofs.Eng.Mut.dead2 {H H' : Hp} {W : List Nat} (h : Mut H H' W) : Mut H (hdead H') W := by
  refine ⟨by have := h.len; simp [hdead]; omega, fun i hi hw => ?_, fun m hm => h.d m hm⟩
  rw [← h.old i hi hw]
  have := h.len
  simp only [hdead]
  rw [List.getElem?_append_left (by omega)]
end
end Go.Proofs.Eng
