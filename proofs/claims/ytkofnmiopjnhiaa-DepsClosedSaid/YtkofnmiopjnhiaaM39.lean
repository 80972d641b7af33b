import Derived.Test.YtkofnmiopjnhiaaM33
import Derived.Test.YtkofnmiopjnhiaaEngAK
import Derived.Test.YtkofnmiopjnhiaaEngAH
import Derived.KernelRfl
/- The law SolveNone, run by the engine. -/
set_option linter.unusedVariables false
set_option linter.unusedSimpArgs false
set_option maxRecDepth 100000
namespace Go.Proofs.Eng
open Go
section
variable {Γ : Sums} {A : Tab} {N : Nat → Nat}
@[simp] theorem aeq_nilp : aeq .pptr (.lit (.pointer none)) (.lit (.pointer none)) = some true := _root_.id rfl
end
end Go.Proofs.Eng
/- The law StoreFull: plain facts of its names. -/
set_option linter.unusedVariables false
set_option linter.unusedSimpArgs false
set_option maxRecDepth 100000
namespace Go.Proofs.Eng
open Go
section
variable {Γ : Sums} {A : Tab} {N : Nat → Nat}
theorem St.alloc {H : Hp} {t : TypeId} {p m turn : Nat} {l : List (List UInt8 × AV)} (h : St H t p m turn l) (o : AObj) : St (halloc H o) t p m turn l := by
  obtain ⟨c1, es, clk, c2, c3⟩ := h
  refine ⟨?_, es, clk, ?_, c3⟩
  · rw [hget_halloc, if_neg (Nat.ne_of_lt (hget_lt c1))]; exact c1
  · rw [hget_halloc, if_neg (Nat.ne_of_lt (hget_lt c2))]; exact c2
end
end Go.Proofs.Eng
/- Two maps with texts for keys, held against each other: one of rows of bytes, one of texts. -/
set_option linter.unusedVariables false
set_option linter.unusedSimpArgs false
set_option maxRecDepth 100000
namespace Go.Proofs.Eng
open Go

def kpos (k : List UInt8) : List (List UInt8) → Option Nat
  | [] => none
  | x :: r => if k = x then some 0 else (kpos k r).map (· + 1)
theorem kpos_lt {k : List UInt8} : ∀ {l : List (List UInt8)} {i : Nat}, kpos k l = some i → l[i]? = some k
  | [], i, h => by simp [kpos] at h
  | x :: r, i, h => by
    simp only [kpos] at h
    split at h
    · rename_i e; simp only [Option.some.injEq] at h; subst h; subst e; rfl
    · obtain ⟨j, hj, rfl⟩ := Option.map_eq_some_iff.1 h
      simpa using kpos_lt hj
theorem vFind_kpos (k : List UInt8) : ∀ l : List (List UInt8 × AV), vFind k l = (kpos k (l.map Prod.fst)).bind fun i => (l[i]?).map fun e => (i, e.2)
  | [] => rfl
  | x :: r => by
    simp only [vFind, List.map_cons, kpos]
    split
    · rename_i e; rfl
    · rw [vFind_kpos k r]
      cases kpos k (r.map Prod.fst) with
      | none => rfl
      | some i => simp only [Option.bind_some, Option.map_some, List.getElem?_cons_succ]; cases r[i]? <;> rfl

/-- A model's map: texts by texts. -/
abbrev SM := List (List UInt8 × List UInt8)
def sKeys (sm : SM) : List (List UInt8) := sm.map Prod.fst
def sFind (k : List UInt8) (sm : SM) : Option (List UInt8) := (kpos k (sKeys sm)).bind fun i => (sm[i]?).map Prod.snd
def sPut (k b : List UInt8) (sm : SM) : SM := match kpos k (sKeys sm) with
  | some i => sm.modify i fun _ => (k, b)
  | none => sm ++ [(k, b)]
def sDel (k : List UInt8) (sm : SM) : SM := match kpos k (sKeys sm) with
  | some i => sm.eraseIdx i
  | none => sm
theorem kpos_some {k : List UInt8} {sm : SM} {i : Nat} (h : kpos k (sKeys sm) = some i) : ∃ b, sm[i]? = some (k, b) ∧ i < sm.length := by
  have := kpos_lt h
  simp only [sKeys, List.getElem?_map, Option.map_eq_some_iff] at this
  obtain ⟨⟨a, b⟩, h1, rfl⟩ := this
  exact ⟨b, h1, (List.getElem?_eq_some_iff.1 h1).1⟩
/-- A map of rows of bytes, laid in a heap, has the texts of a model's map. -/
def R2 (H : Hp) (l : List (List UInt8 × AV)) (sm : SM) : Prop := l.map Prod.fst = sKeys sm ∧ ∀ (i : Nat) (x : List UInt8 × AV) (y : List UInt8 × List UInt8), l[i]? = some x → sm[i]? = some y → VBytes H x.2 y.2
namespace R2
variable {H H' : Hp} {l : List (List UInt8 × AV)} {sm : SM} {k b : List UInt8} {c : AV}
theorem nil : R2 H [] [] := ⟨rfl, by simp⟩
theorem len (h : R2 H l sm) : l.length = sm.length := by
  have := congrArg List.length h.1
  simpa [sKeys] using this
theorem keep (h : R2 H l sm) (k : ∀ x es, VBytes H x es → VBytes H' x es) : R2 H' l sm := ⟨h.1, fun i x y hx hy => k _ _ (h.2 i x y hx hy)⟩
theorem isSome (h : R2 H l sm) (k : List UInt8) : (vFind k l).isSome = (sFind k sm).isSome := by
  rw [vFind_kpos, h.1]
  unfold sFind
  cases hk : kpos k (sKeys sm) with
  | none => rfl
  | some i =>
    obtain ⟨c, hc, hi⟩ := kpos_some hk
    have hi2 : i < l.length := by rw [h.len]; exact hi
    simp [hc, List.getElem?_eq_getElem hi2]
theorem get (h : R2 H l sm) (k : List UInt8) : VBytes H (((vFind k l).map Prod.snd).getD avNilS) ((sFind k sm).getD []) := by
  rw [vFind_kpos, h.1]
  unfold sFind
  cases hk : kpos k (sKeys sm) with
  | none => exact .inl (.inl ⟨rfl, rfl⟩)
  | some i =>
    obtain ⟨c, hc, hi⟩ := kpos_some hk
    have hi2 : i < l.length := by rw [h.len]; exact hi
    have := h.2 i _ _ (List.getElem?_eq_getElem hi2) hc
    simpa [hc, List.getElem?_eq_getElem hi2] using this
theorem put (h : R2 H l sm) (hc : VBytes H c b) : R2 H (vPut k c l) (sPut k b sm) := by
  unfold vPut sPut
  rw [vFind_kpos, h.1]
  cases hk : kpos k (sKeys sm) with
  | none =>
    simp only [Option.bind_none]
    refine ⟨by simp [h.1, sKeys], fun i x y hx hy => ?_⟩
    by_cases hi : i < l.length
    · rw [List.getElem?_append_left hi] at hx
      rw [List.getElem?_append_left (by rw [← h.len]; exact hi)] at hy
      exact h.2 i x y hx hy
    · rw [List.getElem?_append_right (by omega)] at hx
      rw [List.getElem?_append_right (by rw [← h.len]; omega), ← h.len] at hy
      have h0 : i - l.length = 0 := by have := (List.getElem?_eq_some_iff.1 hx).1; simp at this; omega
      rw [h0] at hx hy
      simp at hx hy
      subst hx; subst hy; exact hc
  | some i =>
    obtain ⟨c', hc', hi⟩ := kpos_some hk
    have hi2 : i < l.length := by rw [h.len]; exact hi
    simp only [Option.bind_some, List.getElem?_eq_getElem hi2, Option.map_some]
    refine ⟨?_, fun j x y hx hy => ?_⟩
    · apply List.ext_getElem?
      intro j
      have hj : (l.map Prod.fst)[j]? = (sKeys sm)[j]? := by rw [h.1]
      simp only [sKeys, List.getElem?_map, List.getElem?_modify] at hj ⊢
      by_cases hij : i = j
      · subst hij; simp [List.getElem?_eq_getElem hi2, hc']
      · simp only [hij, if_false]
        cases h1 : l[j]? <;> cases h2 : sm[j]? <;> simp [h1, h2] at hj ⊢
        exact hj
    · rw [List.getElem?_modify] at hx hy
      cases h1 : l[j]? with
      | none => rw [h1] at hx; simp at hx
      | some u =>
        cases h2 : sm[j]? with
        | none => rw [h2] at hy; simp at hy
        | some v =>
          rw [h1] at hx; rw [h2] at hy
          by_cases hij : i = j
          · simp [hij] at hx hy; subst hx; subst hy; exact hc
          · simp [hij] at hx hy
            subst hx; subst hy; exact h.2 j u v h1 h2
theorem del (h : R2 H l sm) : R2 H (vDel k l) (sDel k sm) := by
  unfold vDel sDel
  rw [vFind_kpos, h.1]
  cases hk : kpos k (sKeys sm) with
  | none => exact h
  | some i =>
    obtain ⟨c', hc', hi⟩ := kpos_some hk
    have hi2 : i < l.length := by rw [h.len]; exact hi
    simp only [Option.bind_some, List.getElem?_eq_getElem hi2, Option.map_some]
    refine ⟨?_, fun j x y hx hy => ?_⟩
    · apply List.ext_getElem?
      intro j
      have hj : ∀ j : Nat, (l.map Prod.fst)[j]? = (sKeys sm)[j]? := fun j => by rw [h.1]
      simp only [sKeys, List.getElem?_map] at hj
      simp only [sKeys, List.getElem?_map, List.getElem?_eraseIdx]
      split
      · exact hj j
      · exact hj (j + 1)
    · rw [List.getElem?_eraseIdx] at hx hy
      split at hx
      · rename_i hlt; rw [if_pos hlt] at hy; exact h.2 j x y hx hy
      · rename_i hlt; rw [if_neg hlt] at hy; exact h.2 _ x y hx hy
end R2

/-! ### Sorted keys -/
theorem keysB_of : ∀ {es : List (Value × AV × Nat)}, SKeys es → (∀ e ∈ KV es, e.1.length ≤ maxLen) → keysB es = some ((KV es).map Prod.fst)
  | [], _, _ => rfl
  | e :: r, h, hl => by
    obtain ⟨s, hs⟩ := h e (by simp)
    have ih := keysB_of (es := r) (fun x hx => h x (by simp [hx])) (fun x hx => hl x (by simp only [KV, List.map_cons]; exact List.mem_cons_of_mem _ hx))
    have h1 := hl (keyB e.1, e.2.1) (by simp [KV])
    simp only [hs, keyB] at h1
    have hs2 : s.size ≤ maxLen := by rw [← bl_length]; exact h1
    simp only [keysB, hs, if_pos hs2, ih, KV, List.map_cons, keyB, Option.map_some]
end Go.Proofs.Eng
/- Templates of functions, as the engine takes them; numbers of functions and types by names. Printed by tm.py. -/
set_option linter.unusedVariables false
set_option maxRecDepth 100000
namespace Go.Proofs.Eng
open Go

/-- azimuth/azimuthref04.Name -/
def C_ref04_Name (N : Nat → Nat) : AFunc := ⟨10, [.inl 2],
 .seq (
  .ops [⟨(some 2), .mov (.c (.lit (.bool false))), none⟩]) (
 .seq (
  .ops [⟨(some 3), .mov (.t 0), none⟩, ⟨(some 4), .call (.c (.fn (f_ref04_Tag N) [] [])) [(.t 3)], none⟩, ⟨(some 5), .mov (.t 4), none⟩, ⟨(some 6), .mov (.t 0), (some (5, true))⟩, ⟨(some 7), .call (.c (.fn (f_ref03_IsWord N) [] [])) [(.t 6)], (some (5, true))⟩, ⟨(some 8), .un .not (.t 7), (some (5, true))⟩, ⟨(some 9), .pick (.t 5) (.t 8) (.c (.lit (.bool false))), none⟩, ⟨(some 2), .mov (.t 9), none⟩]) (
 .ret)), false⟩

def L_ref04_Tag_1 (N : Nat → Nat) : AC :=
    .seq (
     .seq (
      .ops [⟨(some 6), .mov (.t 3), none⟩, ⟨(some 7), .mov (.t 0), none⟩, ⟨(some 8), .lens (.t 7), none⟩, ⟨(some 9), .bin .lss (.t 6) (.t 8), none⟩]) (
     .cond (.t 9) (
      .skip) (
      .exit 0))) (
    .seq (
     .block 1 (
      .seq (
       .ops [⟨(some 12), .mov (.t 0), none⟩, ⟨(some 13), .mov (.t 3), none⟩, ⟨(some 14), .sidx (.t 12) (.t 13), none⟩, ⟨(some 4), .mov (.t 14), none⟩]) (
      .seq (
       .ops [⟨(some 15), .mov (.t 4), none⟩, ⟨(some 16), .bin .geq (.t 15) (.c (.lit (.int .u8 97))), none⟩, ⟨(some 17), .mov (.t 16), none⟩, ⟨(some 18), .mov (.t 4), (some (17, true))⟩, ⟨(some 19), .bin .leq (.t 18) (.c (.lit (.int .u8 122))), (some (17, true))⟩, ⟨(some 20), .pick (.t 17) (.t 19) (.c (.lit (.bool false))), none⟩, ⟨(some 21), .mov (.t 20), none⟩, ⟨(some 22), .mov (.t 4), (some (21, false))⟩, ⟨(some 23), .eq false .pint (.t 22) (.c (.lit (.int .u8 95))), (some (21, false))⟩, ⟨(some 24), .pick (.t 21) (.c (.lit (.bool true))) (.t 23), none⟩, ⟨(some 5), .mov (.t 24), none⟩]) (
      .seq (
       .ops [⟨(some 25), .mov (.t 5), none⟩, ⟨(some 26), .un .not (.t 25), none⟩, ⟨(some 27), .mov (.t 26), none⟩, ⟨(some 28), .mov (.t 3), (some (27, true))⟩, ⟨(some 29), .eq false .pint (.t 28) (.c (.lit (.int .i64 0))), (some (27, true))⟩, ⟨(some 30), .mov (.t 29), (some (27, true))⟩, ⟨(some 31), .mov (.t 4), (some (30, false))⟩, ⟨(some 32), .bin .lss (.t 31) (.c (.lit (.int .u8 48))), (some (30, false))⟩, ⟨(some 33), .pick (.t 30) (.c (.lit (.bool true))) (.t 32), (some (27, true))⟩, ⟨(some 34), .mov (.t 33), (some (27, true))⟩, ⟨(some 35), .mov (.t 4), (some (34, false))⟩, ⟨(some 36), .bin .gtr (.t 35) (.c (.lit (.int .u8 57))), (some (34, false))⟩, ⟨(some 37), .pick (.t 34) (.c (.lit (.bool true))) (.t 36), (some (27, true))⟩, ⟨(some 38), .pick (.t 27) (.t 37) (.c (.lit (.bool false))), none⟩]) (
      .cond (.t 38) (
       .seq (
        .ops [⟨(some 2), .mov (.c (.lit (.bool false))), none⟩]) (
       .ret)) (
       .skip)))))) (
    .ops [⟨(some 10), .mov (.t 3), none⟩, ⟨(some 11), .bin .add (.t 10) (.c (.lit (.int .i64 1))), none⟩, ⟨(some 3), .mov (.t 11), none⟩]))
def K_ref04_Tag_1 (N : Nat → Nat) : AC :=
 .seq (
  .ops [⟨(some 39), .mov (.t 0), none⟩, ⟨(some 40), .eq true .pstr (.t 39) (.c (.lit (.string (mkS [])))), none⟩, ⟨(some 2), .mov (.t 40), none⟩]) (
 .ret)
/-- azimuth/azimuthref04.Tag -/
def C_ref04_Tag (N : Nat → Nat) : AFunc := ⟨41, [.inl 2],
 .seq (
  .ops [⟨(some 2), .mov (.c (.lit (.bool false))), none⟩]) (
 .seq (
  .seq (
   .ops [⟨(some 3), .mov (.c (.lit (.int .i64 0))), none⟩]) (
  .block 0 (
   .loop (L_ref04_Tag_1 N)))) (K_ref04_Tag_1 N)), false⟩
end Go.Proofs.Eng
/- Templates of functions, as the engine takes them; numbers of functions and types by names. Printed by tm.py. -/
set_option linter.unusedVariables false
set_option maxRecDepth 100000
namespace Go.Proofs.Eng
open Go

def L_ref03_IsWord_1 (N : Nat → Nat) : AC :=
    .seq (
     .seq (
      .ops [⟨(some 7), .mov (.t 3), none⟩, ⟨(some 8), .mov (.t 0), none⟩, ⟨(some 9), .lens (.t 8), none⟩, ⟨(some 10), .bin .lss (.t 7) (.t 9), none⟩]) (
     .cond (.t 10) (
      .skip) (
      .exit 0))) (
    .seq (
     .block 1 (
      .seq (
       .ops [⟨(some 13), .mov (.t 0), none⟩, ⟨(some 14), .mov (.t 3), none⟩, ⟨(some 15), .sidx (.t 13) (.t 14), none⟩, ⟨(some 16), .bin .lss (.t 15) (.c (.lit (.int .u8 97))), none⟩, ⟨(some 17), .mov (.t 16), none⟩, ⟨(some 18), .mov (.t 0), (some (17, false))⟩, ⟨(some 19), .mov (.t 3), (some (17, false))⟩, ⟨(some 20), .sidx (.t 18) (.t 19), (some (17, false))⟩, ⟨(some 21), .bin .gtr (.t 20) (.c (.lit (.int .u8 122))), (some (17, false))⟩, ⟨(some 22), .pick (.t 17) (.c (.lit (.bool true))) (.t 21), none⟩]) (
      .cond (.t 22) (
       .seq (
        .ops [⟨(some 2), .mov (.c (.lit (.bool false))), none⟩]) (
       .ret)) (
       .skip)))) (
    .ops [⟨(some 11), .mov (.t 3), none⟩, ⟨(some 12), .bin .add (.t 11) (.c (.lit (.int .i64 1))), none⟩, ⟨(some 3), .mov (.t 12), none⟩]))
def L_ref03_IsWord_2 (N : Nat → Nat) : AC :=
    .seq (
     .seq (
      .ops [⟨(some 23), .mov (.t 4), none⟩, ⟨(some 24), .mov (.t 0), none⟩, ⟨(some 25), .lens (.t 24), none⟩, ⟨(some 26), .bin .add (.t 23) (.t 25), none⟩, ⟨(some 27), .bin .add (.t 26) (.c (.lit (.int .i64 2))), none⟩, ⟨(some 28), .bin .leq (.t 27) (.c (.lit (.int .i64 89))), none⟩]) (
     .cond (.t 28) (
      .skip) (
      .exit 2))) (
    .seq (
     .block 3 (
      .seq (
       .ops [⟨(some 31), .mov (.t 4), none⟩, ⟨(some 32), .mov (.t 4), none⟩, ⟨(some 33), .mov (.t 0), none⟩, ⟨(some 34), .lens (.t 33), none⟩, ⟨(some 35), .bin .add (.t 32) (.t 34), none⟩, ⟨(some 36), .bin .add (.t 35) (.c (.lit (.int .i64 2))), none⟩, ⟨(some 37), .slstr (.c (.lit (.string (mkS [32, 102, 117, 110, 32, 108, 101, 116, 32, 114, 101, 99, 32, 105, 110, 32, 105, 102, 32, 116, 104, 101, 110, 32, 101, 108, 115, 101, 32, 99, 97, 115, 101, 32, 111, 102, 32, 101, 110, 100, 32, 116, 114, 117, 101, 32, 102, 97, 108, 115, 101, 32, 105, 110, 116, 32, 98, 111, 111, 108, 32, 115, 116, 114, 32, 102, 108, 111, 97, 116, 32, 100, 121, 110, 32, 97, 110, 121, 32, 110, 111, 110, 101, 32, 116, 121, 112, 101, 32])))) (some (.t 31)) (some (.t 36)), none⟩, ⟨(some 38), .mov (.t 0), none⟩, ⟨(some 39), .bin .add (.c (.lit (.string (mkS [32])))) (.t 38), none⟩, ⟨(some 40), .bin .add (.t 39) (.c (.lit (.string (mkS [32])))), none⟩, ⟨(some 41), .eq false .pstr (.t 37) (.t 40), none⟩]) (
      .cond (.t 41) (
       .seq (
        .ops [⟨(some 2), .mov (.c (.lit (.bool true))), none⟩]) (
       .ret)) (
       .skip)))) (
    .ops [⟨(some 29), .mov (.t 4), none⟩, ⟨(some 30), .bin .add (.t 29) (.c (.lit (.int .i64 1))), none⟩, ⟨(some 4), .mov (.t 30), none⟩]))
def K_ref03_IsWord_2 (N : Nat → Nat) : AC :=
 .seq (
  .ops [⟨(some 2), .mov (.c (.lit (.bool false))), none⟩]) (
 .ret)
def K_ref03_IsWord_1 (N : Nat → Nat) : AC :=
 .seq (
  .seq (
   .ops [⟨(some 4), .mov (.c (.lit (.int .i64 0))), none⟩]) (
  .block 2 (
   .loop (L_ref03_IsWord_2 N)))) (K_ref03_IsWord_2 N)
/-- azimuth/azimuthref03.IsWord -/
def C_ref03_IsWord (N : Nat → Nat) : AFunc := ⟨42, [.inl 2],
 .seq (
  .ops [⟨(some 2), .mov (.c (.lit (.bool false))), none⟩]) (
 .seq (
  .seq (
   .ops [⟨(some 5), .mov (.t 0), none⟩, ⟨(some 6), .eq false .pstr (.t 5) (.c (.lit (.string (mkS [])))), none⟩]) (
  .cond (.t 6) (
   .seq (
    .ops [⟨(some 2), .mov (.c (.lit (.bool false))), none⟩]) (
   .ret)) (
   .skip))) (
 .seq (
  .seq (
   .ops [⟨(some 3), .mov (.c (.lit (.int .i64 0))), none⟩]) (
  .block 0 (
   .loop (L_ref03_IsWord_1 N)))) (K_ref03_IsWord_1 N))), false⟩

end Go.Proofs.Eng
/- The reference of chapter 3, run by the engine: numbers, strings, signs. -/
set_option linter.unusedVariables false
set_option linter.unusedSimpArgs false
set_option maxRecDepth 100000
namespace Go.Proofs.Eng
open Go
section
variable {Γ : Sums} {A : Tab} {N : Nat → Nat}
@[simp] theorem abin_subB {c : UInt8} {n : Int} : abin .sub (avByte c) (.lit (.int .u8 n)) = some (avInt .u8 (IntKind.wrap .u8 (c.toNat - n))) := by simp [avByte]

end
end Go.Proofs.Eng
/- The reference of chapter 3, run by the engine: words. -/
set_option linter.unusedVariables false
set_option linter.unusedSimpArgs false
set_option maxRecDepth 100000
namespace Go.Proofs.Eng
open Go
section
variable {Γ : Sums} {A : Tab} {N : Nat → Nat}
def wordsC : List UInt8 := [32, 102, 117, 110, 32, 108, 101, 116, 32, 114, 101, 99, 32, 105, 110, 32, 105, 102, 32, 116, 104, 101, 110, 32, 101, 108, 115, 101, 32, 99, 97, 115, 101, 32, 111, 102, 32, 101, 110, 100, 32, 116, 114, 117, 101, 32, 102, 97, 108, 115, 101, 32, 105, 110, 116, 32, 98, 111, 111, 108, 32, 115, 116, 114, 32, 102, 108, 111, 97, 116, 32, 100, 121, 110, 32, 97, 110, 121, 32, 110, 111, 110, 101, 32, 116, 121, 112, 101, 32]
theorem wordsC_eq : (32 :: 102 :: 117 :: 110 :: 32 :: 108 :: 101 :: 116 :: 32 :: 114 :: 101 :: 99 :: 32 :: 105 :: 110 :: 32 :: 105 :: 102 :: 32 :: 116 :: 104 :: 101 :: 110 :: 32 :: 101 :: 108 :: 115 :: 101 :: 32 :: 99 :: 97 :: 115 :: 101 :: 32 :: 111 :: 102 :: 32 :: 101 :: 110 :: 100 :: 32 :: 116 :: 114 :: 117 :: 101 :: 32 :: 102 :: 97 :: 108 :: 115 :: 101 :: 32 :: 105 :: 110 :: 116 :: 32 :: 98 :: 111 :: 111 :: 108 :: 32 :: 115 :: 116 :: 114 :: 32 :: 102 :: 108 :: 111 :: 97 :: 116 :: 32 :: 100 :: 121 :: 110 :: 32 :: 97 :: 110 :: 121 :: 32 :: 110 :: 111 :: 110 :: 101 :: 32 :: 116 :: 121 :: 112 :: 101 :: 32 :: [] : List UInt8) = wordsC := by kernel_rfl
def az (c : UInt8) : Bool := decide (97 ≤ c.toNat) && decide (c.toNat ≤ 122)
theorem words_fwd (i n : Nat) (hi : i < 90) (hn : n < 90) (h1 : ((wordsC.drop (i + 1)).take n).all az = true) (h2 : (wordsC.drop (i + 1)).take n ≠ []) (h3 : (wordsC.drop i).take (n + 2) = 32 :: ((wordsC.drop (i + 1)).take n ++ [32])) : (wordsC.drop (i + 1)).take n ∈ wordsL := by
  have : (List.range 90).all (fun i => (List.range 90).all fun n => let s := (wordsC.drop (i + 1)).take n; !(s.all az && !s.isEmpty && (wordsC.drop i).take (n + 2) == 32 :: (s ++ [32])) || wordsL.contains s) = true := by decide +kernel
  rw [List.all_eq_true] at this
  have := this i (by simp; exact hi)
  rw [List.all_eq_true] at this
  have := this n (by simp; exact hn)
  have e : ((wordsC.drop (i + 1)).take n).isEmpty = false := by simpa using h2
  simp only [h1, e, h3, Bool.not_false, Bool.and_self, beq_self_eq_true, Bool.not_true, Bool.false_or, List.contains_iff_mem] at this
  exact this
theorem words_bwd {s : List UInt8} (h : s ∈ wordsL) : s.all az = true ∧ s ≠ [] ∧ ∃ i, i + s.length + 2 ≤ 89 ∧ (wordsC.drop i).take (s.length + 2) = 32 :: (s ++ [32]) := by
  have : ∀ s ∈ wordsL, s.all az = true ∧ s ≠ [] ∧ ((List.range 90).any fun i => decide (i + s.length + 2 ≤ 89) && (wordsC.drop i).take (s.length + 2) == 32 :: (s ++ [32])) = true := by decide +kernel
  obtain ⟨h1, h2, h3⟩ := this s h
  refine ⟨h1, h2, ?_⟩
  rw [List.any_eq_true] at h3
  obtain ⟨i, _, h4⟩ := h3
  rw [Bool.and_eq_true, decide_eq_true_eq, beq_iff_eq] at h4
  exact ⟨i, h4⟩
theorem words_iff {s : List UInt8} (h1 : s.all az = true) (h2 : s ≠ []) : (∃ i, i + s.length + 2 ≤ 89 ∧ (wordsC.drop i).take (s.length + 2) = 32 :: (s ++ [32])) ↔ s ∈ wordsL := by
  constructor
  · rintro ⟨i, hi, h3⟩
    have e : (wordsC.drop (i + 1)).take s.length = s := by
      have h4 := congrArg (fun l => (l.drop 1).take s.length) h3
      simpa [List.drop_take, List.take_take] using h4
    have := words_fwd i s.length (by omega) (by omega) (by rw [e]; exact h1) (by rw [e]; exact h2) (by rw [e]; exact h3)
    rwa [e] at this
  · intro h
    exact (words_bwd h).2.2

end
end Go.Proofs.Eng
/- The reference of chapter 4, run by the engine: tags and names. -/
set_option linter.unusedVariables false
set_option linter.unusedSimpArgs false
set_option maxRecDepth 100000
namespace Go.Proofs.Eng
open Go
section
variable {Γ : Sums} {A : Tab} {N : Nat → Nat}
/-- A name, or a word. -/
def tagB (s : List UInt8) : Bool := !s.isEmpty && (s.head?.map isLow).getD false && decide (runB isInName s = s.length)
theorem nameB_tag (s : List UInt8) : isNameB s = (tagB s && !isWordB s) := rfl
structure Ref04N (Γ : Sums) (A : Tab) (N : Nat → Nat) : Prop where
  tag : Has Γ A (f_ref04_Tag N) (C_ref04_Tag N)
  name : Has Γ A (f_ref04_Name N) (C_ref04_Name N)
theorem ref04_Tag_call (h : Ref04N Γ A N) (s : List UInt8) (hl : s.length < 2 ^ 40) (H : Hp) : (lim Γ A).call (f_ref04_Tag N) [avStr s] H = some (avBool (tagB s), none) := by
  apply h.tag.call (by rfl)
  simp [C_ref04_Tag, -Int.natCast_add]
  refine wp_round (fun k ρ H' => H' = { l := H.l, d := none } ∧ ∃ i : Nat, ρ 0 = avStr s ∧ ρ 3 = avInt .i64 i ∧ i ≤ s.length ∧ (s.take i).all isInName = true ∧ (0 < i → (s.head?.map isLow).getD false = true) ∧ k = s.length - i) (n := s.length) ⟨rfl, 0, rfl, rfl, by omega, by simp, by omega, rfl⟩ ?_
  rintro k ρ H' ⟨rfl, i, r0, r3, hi, ha, hp, rfl⟩
  have hrd := runB_drop isInName s i ha hi
  by_cases hlt : i < s.length
  · have hlt' : (i : Int) < s.length := by omega
    have hx := asidx_nat (k := .i64) hlt
    have hw : IntKind.wrap .i64 ((i : Int) + 1) = ((i + 1 : Nat) : Int) := by rw [wrap64 (by omega) (by omega)]; omega
    have hd : s.drop i = s[i] :: s.drop (i + 1) := List.drop_eq_getElem_cons hlt
    have hhd : i = 0 → (s.head?.map isLow).getD false = isLow s[i] := by
      rintro rfl
      simp [List.head?_eq_getElem?, List.getElem?_eq_getElem hlt]
    have stopN : isInName s[i] = false → tagB s = false := by
      intro hc
      unfold tagB
      have : runB isInName s = i := by rw [hrd, hd, runB_stop hc]; omega
      simp [this]; omega
    have stop0 : i = 0 → isLow s[i] = false → tagB s = false := by
      intro h0 hc
      unfold tagB
      rw [hhd h0, hc]; simp
    have go : isInName s[i] = true → (s.take (i + 1)).all isInName = true := by
      intro hz
      rw [List.take_succ_eq_append_getElem hlt, List.all_append, ha]; simp [hz]
    have gohd : (i = 0 → isLow s[i] = true) → (s.head?.map isLow).getD false = true := by
      intro hz
      by_cases h0 : i = 0
      · rw [hhd h0, hz h0]
      · exact hp (by omega)
    generalize s[i] = c at *
    have hlow : isLow c = (decide (97 ≤ c.toNat) && decide (c.toNat ≤ 122) || decide (c.toNat = 95)) := rfl
    have hnm : isInName c = (isLow c || (decide (48 ≤ c.toNat) && decide (c.toNat ≤ 57))) := rfl
    have step : isLow c = true ∨ (i ≠ 0 ∧ 48 ≤ c.toNat ∧ c.toNat ≤ 57) → isInName c = true ∧ (i = 0 → isLow c = true) := by
      rintro (h1 | ⟨h1, h2, h3⟩)
      · exact ⟨by rw [hnm, h1]; rfl, fun _ => h1⟩
      · exact ⟨by rw [hnm]; simp [h2, h3], fun h => absurd h h1⟩
    have fin : isLow c = true ∨ (i ≠ 0 ∧ 48 ≤ c.toNat ∧ c.toNat ≤ 57) → ∃ m, m < s.length - i ∧ ∃ i', avInt .i64 ((i + 1 : Nat) : Int) = avInt .i64 (i' : Nat) ∧ i' ≤ s.length ∧ (∀ x ∈ s.take i', isInName x = true) ∧ (0 < i' → (s.head?.map isLow).getD false = true) ∧ m = s.length - i' := by
      intro h1
      obtain ⟨h2, h3⟩ := step h1
      refine ⟨s.length - (i + 1), by omega, i + 1, rfl, by omega, List.all_eq_true.1 (go h2), fun _ => gohd h3, rfl⟩
    by_cases hlw : isLow c = true
    · have hlw2 := hlw
      rw [hlow] at hlw2
      by_cases h95 : c.toNat = 95
      · have a1 : ((c.toNat : Nat) : Int) = 95 := by omega
        simp [L_ref04_Tag_1, r0, r3, hlt', hx, a1, h95, hw, -Int.natCast_add]
        simpa using fin (.inl hlw)
      · have b1 : 97 ≤ c.toNat ∧ c.toNat ≤ 122 := by simpa [h95] using hlw2
        have a1 : (97 : Int) ≤ c.toNat := by omega
        have a2 : (c.toNat : Int) ≤ 122 := by omega
        simp [L_ref04_Tag_1, r0, r3, hlt', hx, a1, a2, b1.1, b1.2, hw, -Int.natCast_add]
        simpa using fin (.inl hlw)
    · have hlw' : isLow c = false := by simpa using hlw
      have hlw2 := hlw'
      rw [hlow] at hlw2
      have h95 : ¬ c.toNat = 95 := by intro h; simp [h] at hlw2
      have hno : ¬ (97 ≤ c.toNat ∧ c.toNat ≤ 122) := by rintro ⟨h1, h2⟩; simp [h1, h2] at hlw2
      have a1 : ¬ ((c.toNat : Nat) : Int) = 95 := by omega
      have key : ∀ (P : Prop), (97 ≤ c.toNat → ¬ c.toNat ≤ 122 → P) → (¬ 97 ≤ c.toNat → P) → P := fun P h1 h2 => by
        by_cases h : 97 ≤ c.toNat
        · exact h1 h fun h' => hno ⟨h, h'⟩
        · exact h2 h
      by_cases h0 : i = 0
      · have ht := stop0 h0 hlw'
        subst h0
        have hx0 : asidx (avStr s) (.lit (.int .i64 0)) = some (avByte c) := hx
        refine key _ (fun b1 b2 => ?_) (fun b1 => ?_)
        · have b1' : (97 : Int) ≤ c.toNat := by omega
          have b2' : ¬ (c.toNat : Int) ≤ 122 := by omega
          simp [L_ref04_Tag_1, r0, r3, hlt, hlt', hx0, a1, h95, b1, b2, b1', b2', ht]
        · have b1' : ¬ (97 : Int) ≤ c.toNat := by omega
          simp [L_ref04_Tag_1, r0, r3, hlt, hlt', hx0, a1, h95, b1, b1', ht]
      · have h0' : ¬ (i : Int) = 0 := by omega
        by_cases hdig : 48 ≤ c.toNat ∧ c.toNat ≤ 57
        · have b1 : ¬ 97 ≤ c.toNat := by omega
          have b1' : ¬ (97 : Int) ≤ c.toNat := by omega
          have c1 : ¬ (c.toNat : Int) < 48 := by omega
          have c2 : ¬ (57 : Int) < c.toNat := by omega
          have d1 : ¬ c.toNat < 48 := by omega
          have d2 : ¬ 57 < c.toNat := by omega
          simp [L_ref04_Tag_1, r0, r3, hlt', hx, a1, h95, b1, b1', h0, h0', c1, c2, d1, d2, hw, -Int.natCast_add]
          simpa using fin (.inr ⟨h0, hdig⟩)
        · have ht := stopN (by rw [hnm, hlw']; simp; omega)
          by_cases c1 : c.toNat < 48
          · have c1' : (c.toNat : Int) < 48 := by omega
            have b1 : ¬ 97 ≤ c.toNat := by omega
            have b1' : ¬ (97 : Int) ≤ c.toNat := by omega
            simp [L_ref04_Tag_1, r0, r3, hlt', hx, a1, h95, b1, b1', h0, h0', c1, c1', ht]
          · have c1' : ¬ (c.toNat : Int) < 48 := by omega
            have d1 : 57 < c.toNat := by omega
            have d1' : (57 : Int) < c.toNat := by omega
            refine key _ (fun b1 b2 => ?_) (fun b1 => ?_)
            · have b1' : (97 : Int) ≤ c.toNat := by omega
              have b2' : ¬ (c.toNat : Int) ≤ 122 := by omega
              simp [L_ref04_Tag_1, r0, r3, hlt', hx, a1, h95, b1, b2, b1', b2', h0, h0', c1, c1', d1, d1', ht]
            · have b1' : ¬ (97 : Int) ≤ c.toNat := by omega
              simp [L_ref04_Tag_1, r0, r3, hlt', hx, a1, h95, b1, b1', h0, h0', c1, c1', d1, d1', ht]
  · have hlt' : ¬ (i : Int) < s.length := by omega
    have hi2 : i = s.length := by omega
    have hrun : runB isInName s = s.length := by rw [hrd, List.drop_of_length_le (by omega)]; simp [runB]; omega
    have ht : tagB s = !decide (s = []) := by
      unfold tagB
      rw [hrun]
      cases s with
      | nil => rfl
      | cons a r => rw [hp (by simp at hi2; omega)]; simp
    simp [L_ref04_Tag_1, K_ref04_Tag_1, r0, r3, hlt', ht]
    try (cases s <;> simp)
end
end Go.Proofs.Eng
/- The reference's names, with its words alone. -/
set_option linter.unusedVariables false
set_option linter.unusedSimpArgs false
set_option maxRecDepth 100000
namespace Go.Proofs.Eng
open Go
section
variable {Γ : Sums} {A : Tab} {N : Nat → Nat}
theorem ref03_IsWord_call' (h : Has Γ A (f_ref03_IsWord N) (C_ref03_IsWord N)) (s : List UInt8) (hl : s.length < 2 ^ 36) (H : Hp) : (lim Γ A).call (f_ref03_IsWord N) [avStr s] H = some (avBool (isWordB s), none) := by
  apply h.call (by rfl)
  by_cases hne : s = []
  · subst hne
    simp [C_ref03_IsWord, isWordB]
    decide
  · have hne' : ¬ (s = []) := hne
    simp [C_ref03_IsWord, hne, -Int.natCast_add]
    refine wp_round (fun k ρ H' => H' = { l := H.l, d := none } ∧ ∃ i : Nat, ρ 0 = avStr s ∧ ρ 3 = avInt .i64 i ∧ i ≤ s.length ∧ (s.take i).all az = true ∧ k = s.length - i) (n := s.length) ⟨rfl, 0, rfl, rfl, by omega, by simp, rfl⟩ ?_
    rintro k ρ H' ⟨rfl, i, r0, r3, hi, ha, rfl⟩
    by_cases hlt : i < s.length
    · have hlt' : (i : Int) < s.length := by omega
      have hx := asidx_nat (k := .i64) hlt
      have hno : az s[i] = false → isWordB s = false := by
        intro hz
        unfold isWordB
        rw [decide_eq_false_iff_not]
        intro hm
        have := (words_bwd hm).1
        rw [List.all_eq_true] at this
        rw [this _ (List.getElem_mem hlt)] at hz
        cases hz
      have hgo : az s[i] = true → (s.take (i + 1)).all az = true := by
        intro hz
        rw [List.take_succ_eq_append_getElem hlt, List.all_append, ha]; simp [hz]
      generalize s[i] = c at *
      by_cases h97 : c.toNat < 97
      · have h97' : (c.toNat : Int) < 97 := by omega
        have hz := hno (by simp [az]; omega)
        simp [L_ref03_IsWord_1, r0, r3, hlt', hx, h97', hz]
      · have h97' : ¬ (c.toNat : Int) < 97 := by omega
        by_cases h122 : 122 < c.toNat
        · have h122' : (122 : Int) < c.toNat := by omega
          have hz := hno (by simp [az]; omega)
          simp [L_ref03_IsWord_1, r0, r3, hlt', hx, h97', h122', hz]
        · have h122' : ¬ (122 : Int) < c.toNat := by omega
          have hw : IntKind.wrap .i64 ((i : Int) + 1) = ((i + 1 : Nat) : Int) := by rw [wrap64 (by omega) (by omega)]; omega
          have hg := hgo (by simp [az]; omega)
          simp [L_ref03_IsWord_1, r0, r3, hlt', hx, h97', h122', hw, -Int.natCast_add]
          exact ⟨s.length - (i + 1), by omega, i + 1, rfl, by omega, List.all_eq_true.1 hg, rfl⟩
    · have hlt' : ¬ (i : Int) < s.length := by omega
      rw [List.take_of_length_le (by omega)] at ha
      have hiff := words_iff ha hne
      simp [L_ref03_IsWord_1, K_ref03_IsWord_1, r0, r3, hlt', -Int.natCast_add]
      refine wp_round (fun k ρ H' => H' = { l := H.l, d := none } ∧ ∃ j : Nat, ρ 0 = avStr s ∧ ρ 4 = avInt .i64 j ∧ j ≤ 90 ∧ (∀ i < j, ¬ (i + s.length + 2 ≤ 89 ∧ (wordsC.drop i).take (s.length + 2) = 32 :: (s ++ [32]))) ∧ k = 90 - j) (n := 90) ⟨rfl, 0, ?_, ?_, by omega, by omega, rfl⟩ ?_
      · simp [r0]
      · simp
      rintro k ρ H' ⟨rfl, j, r0, r4, hj, hn, rfl⟩
      have hw1 : IntKind.wrap .i64 ((j : Int) + (s.length : Int)) = ((j + s.length : Nat) : Int) := by rw [wrap64 (by omega) (by omega)]; omega
      have hw2 : IntKind.wrap .i64 (((j + s.length : Nat) : Int) + 2) = ((j + s.length + 2 : Nat) : Int) := by rw [wrap64 (by omega) (by omega)]; omega
      by_cases hle : j + s.length + 2 ≤ 89
      · have hle' : ((j + s.length + 2 : Nat) : Int) ≤ 89 := by omega
        have hcut : aslstr (avStr wordsC) (some (avInt .i64 (j : Int))) (some (avInt .i64 ((j + s.length + 2 : Nat) : Int))) = some (avStr ((wordsC.drop j).take (s.length + 2))) := by
          rw [aslstr_cut (by omega) (by omega) (by show _ ≤ 89; omega)]
          simp only [Int.toNat_natCast]
          rw [show j + s.length + 2 - j = s.length + 2 from by omega]
        have hadd1 := abin_strAdd (s := mkS [32]) (t := mkS s) (by simp; omega)
        have hadd2 := abin_strAdd (s := mkS ([32] ++ s)) (t := mkS [32]) (by simp; omega)
        simp only [bl_mkS, List.cons_append, List.nil_append] at hadd1 hadd2
        by_cases hm : (wordsC.drop j).take (s.length + 2) = 32 :: (s ++ [32])
        · have hmem : isWordB s = true := by simpa [isWordB] using hiff.1 ⟨j, hle, hm⟩
          rw [hm] at hcut
          simp [L_ref03_IsWord_2, wordsC_eq, r0, r4, hw1, hw2, hle', hcut, hadd1, hadd2, hmem, -Int.natCast_add]
        · have hw3 : IntKind.wrap .i64 ((j : Int) + 1) = ((j + 1 : Nat) : Int) := by rw [wrap64 (by omega) (by omega)]; omega
          generalize hgt : (wordsC.drop j).take (s.length + 2) = t at *
          simp [L_ref03_IsWord_2, wordsC_eq, r0, r4, hw1, hw2, hw3, hle', hcut, hadd1, hadd2, hm, -Int.natCast_add]
          refine ⟨90 - (j + 1), by omega, j + 1, rfl, by omega, ?_, rfl⟩
          intro i hi h1 h2
          have h1 : i + s.length + 2 ≤ 89 := by omega
          rcases Nat.lt_or_ge i j with h3 | h3
          · exact hn i h3 ⟨h1, h2⟩
          · have : i = j := by omega
            subst this
            rw [hgt] at h2
            exact hm h2
      · have hle' : ¬ ((j + s.length + 2 : Nat) : Int) ≤ 89 := by omega
        have hmem : isWordB s = false := by
          unfold isWordB
          rw [decide_eq_false_iff_not, ← hiff]
          rintro ⟨i, h1, h2⟩
          rcases Nat.lt_or_ge i j with h3 | h3
          · exact hn i h3 ⟨h1, h2⟩
          · omega
        simp [L_ref03_IsWord_2, K_ref03_IsWord_2, r0, r4, hw1, hw2, hle', hmem, -Int.natCast_add]
theorem ref04_Name_call' (h : Ref04N Γ A N) (h3 : Has Γ A (f_ref03_IsWord N) (C_ref03_IsWord N)) (s : List UInt8) (hl : s.length < 2 ^ 36) (H : Hp) : (lim Γ A).call (f_ref04_Name N) [avStr s] H = some (avBool (isNameB s), none) := by
  have e1 := fun H => ref04_Tag_call h s (by omega) H
  have e2 := fun H => ref03_IsWord_call' h3 s hl H
  rw [nameB_tag]
  apply h.name.call (by rfl)
  cases ht : tagB s
  · simp [C_ref04_Name, e1, ht]
  · simp [C_ref04_Name, e1, e2, ht]
end
end Go.Proofs.Eng
