import Derived.Test.YtchbifaiofljdaaEngAK
import Derived.Test.YtchbifaiofljdaaM35
import Derived.Test.YtchbifaiofljdaaEngAH
import Derived.Test.YtchbifaiofljdaaM34
/- Two maps with texts for keys, held against each other: one of rows of bytes, one of texts. -/
set_option linter.unusedVariables false
set_option linter.unusedSimpArgs false
set_option maxRecDepth 100000
namespace Go.Proofs.Eng
open Go

def kpos (k : List UInt8) : List (List UInt8) → Option Nat
  | [] => none
  | x :: r => if k = x then some 0 else (kpos k r).map (· + 1)
theorem kpos_lt {k : List UInt8} : ∀ {l : List (List UInt8)} {i : Nat}, kpos k l = some i → l[i]? = some k
  | [], i, h => by simp [kpos] at h
  | x :: r, i, h => by
    simp only [kpos] at h
    split at h
    · rename_i e; simp only [Option.some.injEq] at h; subst h; subst e; rfl
    · obtain ⟨j, hj, rfl⟩ := Option.map_eq_some_iff.1 h
      simpa using kpos_lt hj
theorem kpos_none {k : List UInt8} : ∀ {l : List (List UInt8)}, kpos k l = none ↔ k ∉ l
  | [] => by simp [kpos]
  | x :: r => by
    simp only [kpos]
    split
    · rename_i e; simp [e]
    · rename_i e
      simp only [Option.map_eq_none_iff, kpos_none (l := r), List.mem_cons, e, false_or]
theorem vFind_kpos (k : List UInt8) : ∀ l : List (List UInt8 × AV), vFind k l = (kpos k (l.map Prod.fst)).bind fun i => (l[i]?).map fun e => (i, e.2)
  | [] => rfl
  | x :: r => by
    simp only [vFind, List.map_cons, kpos]
    split
    · rename_i e; rfl
    · rw [vFind_kpos k r]
      cases kpos k (r.map Prod.fst) with
      | none => rfl
      | some i => simp only [Option.bind_some, Option.map_some, List.getElem?_cons_succ]; cases r[i]? <;> rfl

/-- A model's map: texts by texts. -/
abbrev SM := List (List UInt8 × List UInt8)
def sA (sm : SM) : List (List UInt8 × AV) := sm.map fun x => (x.1, avStr x.2)
def sKeys (sm : SM) : List (List UInt8) := sm.map Prod.fst
def sFind (k : List UInt8) (sm : SM) : Option (List UInt8) := (kpos k (sKeys sm)).bind fun i => (sm[i]?).map Prod.snd
def sPut (k b : List UInt8) (sm : SM) : SM := match kpos k (sKeys sm) with
  | some i => sm.modify i fun _ => (k, b)
  | none => sm ++ [(k, b)]
def sDel (k : List UInt8) (sm : SM) : SM := match kpos k (sKeys sm) with
  | some i => sm.eraseIdx i
  | none => sm
theorem sA_keys (sm : SM) : (sA sm).map Prod.fst = sKeys sm := by simp [sA, sKeys, Function.comp_def]
theorem sA_len (sm : SM) : (sA sm).length = sm.length := by simp [sA]
theorem vFind_sA (k : List UInt8) (sm : SM) : (vFind k (sA sm)).map Prod.snd = (sFind k sm).map avStr := by
  rw [vFind_kpos, sA_keys]
  unfold sFind
  cases kpos k (sKeys sm) with
  | none => rfl
  | some i => simp only [Option.bind_some, sA, List.getElem?_map]; cases sm[i]? <;> rfl
theorem kpos_some {k : List UInt8} {sm : SM} {i : Nat} (h : kpos k (sKeys sm) = some i) : ∃ b, sm[i]? = some (k, b) ∧ i < sm.length := by
  have := kpos_lt h
  simp only [sKeys, List.getElem?_map, Option.map_eq_some_iff] at this
  obtain ⟨⟨a, b⟩, h1, rfl⟩ := this
  exact ⟨b, h1, (List.getElem?_eq_some_iff.1 h1).1⟩
theorem sFind_none {k : List UInt8} {sm : SM} : sFind k sm = none ↔ k ∉ sKeys sm := by
  rw [← kpos_none]
  unfold sFind
  cases h : kpos k (sKeys sm) with
  | none => simp
  | some i => obtain ⟨b, hb, _⟩ := kpos_some h; simp [hb]
theorem vFind_sA_isSome (k : List UInt8) (sm : SM) : (vFind k (sA sm)).isSome = (sFind k sm).isSome := by
  have := congrArg Option.isSome (vFind_sA k sm)
  simpa using this
theorem vFind_sA_get (k : List UInt8) (sm : SM) (z : AV) : ((vFind k (sA sm)).map Prod.snd).getD z = ((sFind k sm).map avStr).getD z := by rw [vFind_sA]
theorem sA_put (k b : List UInt8) (sm : SM) : vPut k (avStr b) (sA sm) = sA (sPut k b sm) := by
  unfold vPut sPut
  rw [vFind_kpos, sA_keys]
  cases h : kpos k (sKeys sm) with
  | none => simp [sA]
  | some i =>
    obtain ⟨c, hc, _⟩ := kpos_some h
    simp only [Option.bind_some, sA, List.getElem?_map, hc, Option.map_some]
    apply List.ext_getElem?
    intro j
    simp only [List.getElem?_modify, List.getElem?_map]
    cases sm[j]? with
    | none => rfl
    | some y => by_cases hij : i = j <;> simp [hij]
theorem sA_del (k : List UInt8) (sm : SM) : vDel k (sA sm) = sA (sDel k sm) := by
  unfold vDel sDel
  rw [vFind_kpos, sA_keys]
  cases h : kpos k (sKeys sm) with
  | none => simp [sA]
  | some i =>
    obtain ⟨c, hc, _⟩ := kpos_some h
    simp only [Option.bind_some, sA, List.getElem?_map, hc, Option.map_some]
    apply List.ext_getElem?
    intro j
    simp only [List.getElem?_eraseIdx, List.getElem?_map]
    split <;> rfl
theorem sKeys_put {k b : List UInt8} {sm : SM} : sKeys (sPut k b sm) = if k ∈ sKeys sm then sKeys sm else sKeys sm ++ [k] := by
  unfold sPut
  cases h : kpos k (sKeys sm) with
  | none => rw [if_neg (kpos_none.1 h)]; simp [sKeys]
  | some i =>
    obtain ⟨c, hc, _⟩ := kpos_some h
    have hm : k ∈ sKeys sm := List.mem_map.2 ⟨(k, c), List.mem_of_getElem? hc, rfl⟩
    rw [if_pos hm]
    apply List.ext_getElem?
    intro j
    simp only [sKeys, List.getElem?_map, List.getElem?_modify]
    by_cases hij : i = j
    · subst hij; simp [hc]
    · simp only [hij, if_false]; cases sm[j]? <;> rfl
theorem eraseIdx_perm' {α : Type} : ∀ (l : List α) (i : Nat) (h : i < l.length), (l[i] :: l.eraseIdx i).Perm l
  | [], i, h => by simp at h
  | x :: r, 0, h => by simp
  | x :: r, i + 1, h => by
    have := eraseIdx_perm' r i (by simpa using h)
    simp only [List.getElem_cons_succ, List.eraseIdx_cons_succ]
    exact (List.Perm.swap _ _ _).trans (this.cons x)
theorem sKeys_del {k : List UInt8} {sm : SM} (hn : (sKeys sm).Nodup) : (sKeys (sDel k sm)).Nodup ∧ (∀ x, x ∈ sKeys (sDel k sm) ↔ x ∈ sKeys sm ∧ x ≠ k) := by
  unfold sDel
  cases h : kpos k (sKeys sm) with
  | none => exact ⟨hn, fun x => ⟨fun hx => ⟨hx, fun e => kpos_none.1 h (e ▸ hx)⟩, fun hx => hx.1⟩⟩
  | some i =>
    have he : sKeys (sm.eraseIdx i) = (sKeys sm).eraseIdx i := by
      apply List.ext_getElem?
      intro j
      simp only [sKeys, List.getElem?_map, List.getElem?_eraseIdx]
      split <;> rfl
    have hk := kpos_lt h
    have hlt := (List.getElem?_eq_some_iff.1 hk).1
    have hkk := (List.getElem?_eq_some_iff.1 hk).2
    have hp := eraseIdx_perm' _ _ hlt
    rw [hkk] at hp
    have hn2 := (hp.nodup_iff).2 hn
    rw [List.nodup_cons] at hn2
    simp only [he]
    refine ⟨hn2.2, fun x => ?_⟩
    have := hp.mem_iff (a := x)
    rw [← this]
    constructor
    · intro hx; exact ⟨List.mem_cons_of_mem _ hx, fun e => hn2.1 (e ▸ hx)⟩
    · rintro ⟨hx, hne⟩
      rcases List.mem_cons.1 hx with e | hx
      · exact absurd e hne
      · exact hx
theorem sKeys_put_nodup {k b : List UInt8} {sm : SM} (hn : (sKeys sm).Nodup) : (sKeys (sPut k b sm)).Nodup := by
  rw [sKeys_put]
  split
  · exact hn
  · rename_i h
    rw [List.nodup_append]
    exact ⟨hn, by simp, by rintro a ha c hc rfl; simp at hc; exact h (hc ▸ ha)⟩
theorem sPut_len {k b : List UInt8} {sm : SM} : (sPut k b sm).length ≤ sm.length + 1 := by
  unfold sPut; split <;> simp
theorem sDel_len {k : List UInt8} {sm : SM} : (sDel k sm).length ≤ sm.length := by
  unfold sDel; split
  · exact List.length_eraseIdx_le _ _
  · exact Nat.le_refl _
theorem sPut_mem {k b : List UInt8} {sm : SM} {x} (h : x ∈ sPut k b sm) : x = (k, b) ∨ x ∈ sm := by
  unfold sPut at h
  split at h
  · rename_i i' hi'
    obtain ⟨j, hj⟩ := List.mem_iff_getElem?.1 h
    rw [List.getElem?_modify] at hj
    cases hs : sm[j]? with
    | none => rw [hs] at hj; simp at hj
    | some y =>
      rw [hs] at hj
      by_cases hij : i' = j
      · simp [hij] at hj; exact .inl hj.symm
      · simp [hij] at hj; exact .inr (hj ▸ List.mem_of_getElem? hs)
  · rcases List.mem_append.1 h with h | h
    · exact .inr h
    · exact .inl (by simpa using h)
theorem sDel_mem {k : List UInt8} {sm : SM} {x} (h : x ∈ sDel k sm) : x ∈ sm := by
  unfold sDel at h
  split at h
  · exact (List.eraseIdx_sublist _ _).subset h
  · exact h

/-- A map of rows of bytes, laid in a heap, has the texts of a model's map. -/
def R2 (H : Hp) (l : List (List UInt8 × AV)) (sm : SM) : Prop := l.map Prod.fst = sKeys sm ∧ ∀ (i : Nat) (x : List UInt8 × AV) (y : List UInt8 × List UInt8), l[i]? = some x → sm[i]? = some y → VBytes H x.2 y.2
namespace R2
variable {H H' : Hp} {l : List (List UInt8 × AV)} {sm : SM} {k b : List UInt8} {c : AV}
theorem nil : R2 H [] [] := ⟨rfl, by simp⟩
theorem len (h : R2 H l sm) : l.length = sm.length := by
  have := congrArg List.length h.1
  simpa [sKeys] using this
theorem keep (h : R2 H l sm) (k : ∀ x es, VBytes H x es → VBytes H' x es) : R2 H' l sm := ⟨h.1, fun i x y hx hy => k _ _ (h.2 i x y hx hy)⟩
theorem isSome (h : R2 H l sm) (k : List UInt8) : (vFind k l).isSome = (sFind k sm).isSome := by
  rw [vFind_kpos, h.1]
  unfold sFind
  cases hk : kpos k (sKeys sm) with
  | none => rfl
  | some i =>
    obtain ⟨c, hc, hi⟩ := kpos_some hk
    have hi2 : i < l.length := by rw [h.len]; exact hi
    simp [hc, List.getElem?_eq_getElem hi2]
theorem get (h : R2 H l sm) (k : List UInt8) : VBytes H (((vFind k l).map Prod.snd).getD avNilS) ((sFind k sm).getD []) := by
  rw [vFind_kpos, h.1]
  unfold sFind
  cases hk : kpos k (sKeys sm) with
  | none => exact .inl (.inl ⟨rfl, rfl⟩)
  | some i =>
    obtain ⟨c, hc, hi⟩ := kpos_some hk
    have hi2 : i < l.length := by rw [h.len]; exact hi
    have := h.2 i _ _ (List.getElem?_eq_getElem hi2) hc
    simpa [hc, List.getElem?_eq_getElem hi2] using this
theorem put (h : R2 H l sm) (hc : VBytes H c b) : R2 H (vPut k c l) (sPut k b sm) := by
  unfold vPut sPut
  rw [vFind_kpos, h.1]
  cases hk : kpos k (sKeys sm) with
  | none =>
    simp only [Option.bind_none]
    refine ⟨by simp [h.1, sKeys], fun i x y hx hy => ?_⟩
    by_cases hi : i < l.length
    · rw [List.getElem?_append_left hi] at hx
      rw [List.getElem?_append_left (by rw [← h.len]; exact hi)] at hy
      exact h.2 i x y hx hy
    · rw [List.getElem?_append_right (by omega)] at hx
      rw [List.getElem?_append_right (by rw [← h.len]; omega), ← h.len] at hy
      have h0 : i - l.length = 0 := by have := (List.getElem?_eq_some_iff.1 hx).1; simp at this; omega
      rw [h0] at hx hy
      simp at hx hy
      subst hx; subst hy; exact hc
  | some i =>
    obtain ⟨c', hc', hi⟩ := kpos_some hk
    have hi2 : i < l.length := by rw [h.len]; exact hi
    simp only [Option.bind_some, List.getElem?_eq_getElem hi2, Option.map_some]
    refine ⟨?_, fun j x y hx hy => ?_⟩
    · apply List.ext_getElem?
      intro j
      have hj : (l.map Prod.fst)[j]? = (sKeys sm)[j]? := by rw [h.1]
      simp only [sKeys, List.getElem?_map, List.getElem?_modify] at hj ⊢
      by_cases hij : i = j
      · subst hij; simp [List.getElem?_eq_getElem hi2, hc']
      · simp only [hij, if_false]
        cases h1 : l[j]? <;> cases h2 : sm[j]? <;> simp [h1, h2] at hj ⊢
        exact hj
    · rw [List.getElem?_modify] at hx hy
      cases h1 : l[j]? with
      | none => rw [h1] at hx; simp at hx
      | some u =>
        cases h2 : sm[j]? with
        | none => rw [h2] at hy; simp at hy
        | some v =>
          rw [h1] at hx; rw [h2] at hy
          by_cases hij : i = j
          · simp [hij] at hx hy; subst hx; subst hy; exact hc
          · simp [hij] at hx hy
            subst hx; subst hy; exact h.2 j u v h1 h2
theorem del (h : R2 H l sm) : R2 H (vDel k l) (sDel k sm) := by
  unfold vDel sDel
  rw [vFind_kpos, h.1]
  cases hk : kpos k (sKeys sm) with
  | none => exact h
  | some i =>
    obtain ⟨c', hc', hi⟩ := kpos_some hk
    have hi2 : i < l.length := by rw [h.len]; exact hi
    simp only [Option.bind_some, List.getElem?_eq_getElem hi2, Option.map_some]
    refine ⟨?_, fun j x y hx hy => ?_⟩
    · apply List.ext_getElem?
      intro j
      have hj : ∀ j : Nat, (l.map Prod.fst)[j]? = (sKeys sm)[j]? := fun j => by rw [h.1]
      simp only [sKeys, List.getElem?_map] at hj
      simp only [sKeys, List.getElem?_map, List.getElem?_eraseIdx]
      split
      · exact hj j
      · exact hj (j + 1)
    · rw [List.getElem?_eraseIdx] at hx hy
      split at hx
      · rename_i hlt; rw [if_pos hlt] at hy; exact h.2 j x y hx hy
      · rename_i hlt; rw [if_neg hlt] at hy; exact h.2 _ x y hx hy
end R2

/-! ### Sorted keys -/
theorem keysB_of : ∀ {es : List (Value × AV × Nat)}, SKeys es → (∀ e ∈ KV es, e.1.length ≤ maxLen) → keysB es = some ((KV es).map Prod.fst)
  | [], _, _ => rfl
  | e :: r, h, hl => by
    obtain ⟨s, hs⟩ := h e (by simp)
    have ih := keysB_of (es := r) (fun x hx => h x (by simp [hx])) (fun x hx => hl x (by simp only [KV, List.map_cons]; exact List.mem_cons_of_mem _ hx))
    have h1 := hl (keyB e.1, e.2.1) (by simp [KV])
    simp only [hs, keyB] at h1
    have hs2 : s.size ≤ maxLen := by rw [← bl_length]; exact h1
    simp only [keysB, hs, if_pos hs2, ih, KV, List.map_cons, keyB, Option.map_some]
theorem sortB_strict {l : List (List UInt8)} (h : l.Nodup) : (sortB l).Pairwise (fun a b => a < b) := by
  have hn := ((sortB_perm l).nodup_iff).2 h
  have hs := sortB_sorted l
  rw [List.Nodup] at hn
  exact (List.pairwise_and_iff.2 ⟨hs, hn⟩).imp fun ⟨h1, h2⟩ => by
    exact Decidable.byContradiction fun h => h2 (List.le_antisymm h1 (List.not_lt.1 h))
end Go.Proofs.Eng
/- Templates of functions, as the engine takes them; numbers of functions and types by names. Printed by tm.py. -/
set_option linter.unusedVariables false
set_option maxRecDepth 100000
namespace Go.Proofs.Eng
open Go

/-- maps.Keys[map[string][]byte,string,[]byte] -/
def C_maps_Keys_map_string_sl_byte_string_sl_byte (N : Nat → Nat) : AFunc := ⟨4, [.inl 2],
 .seq (
  .ops [⟨(some 1), .box (t_map_string_sl_uint8 N) (.t 0), none⟩, ⟨(some 2), .mov (.c (.lit .nilFunc)), none⟩]) (
 .seq (
  .ops [⟨(some 3), .mkfn (f_maps_Keys_map_string_sl_byte_string_sl_byte_1 N) [] [(.t 1)], none⟩, ⟨(some 2), .mov (.t 3), none⟩]) (
 .ret)), false⟩

def L_maps_Keys_map_string_sl_byte_string_sl_byte_1_1 (N : Nat → Nat) : AC :=
   .seq (
    .ops [⟨none, .mnmx false [], none⟩, ⟨(some 7), .extract (.t 6) 0, none⟩]) (
   .seq (
    .cond (.t 7) (
     .skip) (
     .exit 0)) (
   .block 1 (
    .seq (
     .ops [⟨none, .mnmx false [], none⟩, ⟨(some 9), .extract (.t 8) 0, none⟩, ⟨(some 3), .mov (.t 9), none⟩]) (
    .seq (
     .ops [⟨(some 10), .mov (.t 0), none⟩, ⟨(some 11), .mov (.t 3), none⟩, ⟨(some 12), .call (.t 10) [(.t 11)], none⟩, ⟨(some 13), .un .not (.t 12), none⟩]) (
    .cond (.t 13) (
     .ret) (
     .skip))))))
/-- maps.Keys[map[string][]byte,string,[]byte]$1 -/
def C_maps_Keys_map_string_sl_byte_string_sl_byte_1 (N : Nat → Nat) : AFunc := ⟨14, [],
 .seq (
  .ops [⟨(some 4), .load none (.t 1), none⟩, ⟨none, .mnmx false [], none⟩]) (
 .block 0 (
  .loop (L_maps_Keys_map_string_sl_byte_string_sl_byte_1_1 N))), false⟩
end Go.Proofs.Eng
/- The store's functions, second part: Rename, Text, Len, Turn, All. -/
set_option linter.unusedVariables false
set_option linter.unusedSimpArgs false
set_option maxRecDepth 100000
namespace Go.Proofs.Eng
open Go
section
variable {Γ : Sums} {A : Tab} {N : Nat → Nat}

structure StoreS2 (Γ : Sums) (A : Tab) (N : Nat → Nat) : Prop where
  ren : Has Γ A (f_p_store_Store_Rename N) (C_p_store_Store_Rename N)
  text : Has Γ A (f_p_store_Store_Text N) (C_p_store_Store_Text N)
  len : Has Γ A (f_p_store_Store_Len N) (C_p_store_Store_Len N)
  turn : Has Γ A (f_p_store_Store_Turn N) (C_p_store_Store_Turn N)
  all : Has Γ A (f_p_store_Store_All N) (C_p_store_Store_All N)
  all1 : Has Γ A (f_p_store_Store_All_1 N) (C_p_store_Store_All_1 N)
  keys : Has Γ A (f_maps_Keys_map_string_sl_byte_string_sl_byte N) (C_maps_Keys_map_string_sl_byte_string_sl_byte N)
  sorted : ∀ (H : Hp) (id mid : Nat) (es : List (Value × AV × Nat)) (clk : Nat) (t : TypeId), hget H id = some (.cells [.map mid] t) → hget H mid = some (.map es clk) → SKeys es → (∀ e ∈ KV es, e.1.length ≤ maxLen) → es.length < 2 ^ 36 →
    (lim Γ A).call (f_slices_Sorted_string N) [.fn (f_maps_Keys_map_string_sl_byte_string_sl_byte_1 N) [] [.ptr id 0]] H = some (sortedR H (t_string N) ((KV es).map Prod.fst))

def renE (a b : List UInt8) (l : List (List UInt8 × AV)) : Nat :=
  if (vFind a l).isSome = false then 13 else if !isNameB b then 7 else if (vFind b l).isSome = true then 8 else 0

theorem Rename_err (h : StoreS Γ A N) (h2 : StoreS2 Γ A N) {H : Hp} {t : TypeId} {p m turn : Nat} {l : List (List UInt8 × AV)} (hs : St H t p m turn l) {a b : List UInt8} (hl : b.length < 2 ^ 40) (he : renE a b l ≠ 0) :
    (lim Γ A).call (f_p_store_Store_Rename N) [.ptr p 0, avStr a, avStr b] H = some (avInt .i64 (renE a b l), none) := by
  have e1 := fun H => lexer_IsName_call h.lex b hl H
  obtain ⟨es, clk, m1, m2, m3⟩ := hs.mp
  have hm : hget { l := H.l, d := none } m = some (.map es clk) := m1
  have q1 : hget { l := H.l, d := none } p = some (.cells [.map m, avInt .i64 turn] t) := hs.cell
  have q2 := fun s => aLookup_str (s := mkS s) (z := .lit (.slice none 0 0)) hm m2
  simp only [m3] at q2
  apply h2.ren.call (by rfl)
  unfold renE at he ⊢
  cases c1 : (vFind a l).isSome
  · simp [C_p_store_Store_Rename, q1, q2, e1, c1]
  · cases c2 : isNameB b
    · simp [C_p_store_Store_Rename, q1, q2, e1, c1, c2]
    · cases c3 : (vFind b l).isSome
      · simp [c1, c2, c3] at he
      · simp [C_p_store_Store_Rename, q1, q2, e1, c1, c2, c3]

theorem Rename_ok (h : StoreS Γ A N) (h2 : StoreS2 Γ A N) {H : Hp} {t : TypeId} {p m turn : Nat} {l : List (List UInt8 × AV)} (hs : St H t p m turn l) {a b : List UInt8} (hl : b.length < 2 ^ 40) (he : renE a b l = 0) (ht : turn < 2 ^ 60) :
    ∃ g, (lim Γ A).call (f_p_store_Store_Rename N) [.ptr p 0, avStr a, avStr b] H = some (avInt .i64 0, some g) ∧ St g t p m (turn + 1) (vPut b (((vFind a l).map Prod.snd).getD avNilS) (vDel a l)) ∧ Mut H g [p, m] ∧ g.l.length = H.l.length := by
  have hpm := hs.ne
  have e1 := fun H => lexer_IsName_call h.lex b hl H
  obtain ⟨es, clk, m1, m2, m3⟩ := hs.mp
  have hm : hget { l := H.l, d := none } m = some (.map es clk) := m1
  have q1 : hget { l := H.l, d := none } p = some (.cells [.map m, avInt .i64 turn] t) := hs.cell
  have q2 := fun s => aLookup_str (s := mkS s) (z := .lit (.slice none 0 0)) hm m2
  simp only [m3] at q2
  obtain ⟨es', u1, u2, u3⟩ := aDelete_str (s := mkS a) hm m2
  have hlt := hget_lt hs.cell
  have hltm := hget_lt m1
  have hm1 : hget (hset { l := H.l, d := none } m (some (.map es' clk))) m = some (.map es' clk) := by
    rw [hget_hset, if_pos rfl, if_pos (by simpa using hltm)]
  obtain ⟨es'', clk'', v1, v2, v3⟩ := aMapupd_str (s := mkS b) (v := ((vFind a l).map Prod.snd).getD avNilS) hm1 u2
  have hgp : hget (hset { l := H.l, d := none } m (some (.map es' clk))) p = some (.cells [.map m, avInt .i64 turn] t) := by
    rw [hget_hset, if_neg hpm]; exact q1
  have hgp2 : hget (hset (hset { l := H.l, d := none } m (some (.map es' clk))) m (some (.map es'' clk''))) p = some (.cells [.map m, avInt .i64 turn] t) := by
    rw [hget_hset, if_neg hpm]; exact hgp
  have hw : IntKind.wrap .i64 ((turn : Int) + 1) = ((turn + 1 : Nat) : Int) := by rw [wrap64 (by omega) (by omega)]; omega
  obtain ⟨G, hG⟩ : ∃ G, G = hset (hset (hset { l := H.l, d := none } m (some (.map es' clk))) m (some (.map es'' clk''))) p (some (.cells [.map m, avInt .i64 ((turn + 1 : Nat) : Int)] t)) := ⟨_, rfl⟩
  have hmu : Mut { l := H.l, d := none } G [p, m] := by
    rw [hG]
    exact (((Mut.refl _ [p, m]).set (i := m) (.inl (by simp))).set (i := m) (.inl (by simp))).set (i := p) (.inl (by simp))
  obtain ⟨R, hR⟩ : ∃ R : AV × Option Hp → Prop, R = fun r => ∃ g, r = (avInt .i64 0, some g) ∧ St g t p m (turn + 1) (vPut b (((vFind a l).map Prod.snd).getD avNilS) (vDel a l)) ∧ Mut H g [p, m] ∧ g.l.length = H.l.length := ⟨_, rfl⟩
  suffices ∃ r, (lim Γ A).call (f_p_store_Store_Rename N) [.ptr p 0, avStr a, avStr b] H = some r ∧ R r by
    obtain ⟨r, e, hr⟩ := this
    rw [hR] at hr
    obtain ⟨g, rfl, r1, r2⟩ := hr
    exact ⟨g, e, r1, r2⟩
  have fin : R (avInt .i64 0, some { l := G.l, d := dminO H.d G.d }) := by
    rw [hR]
    refine ⟨_, rfl, ⟨?_, es'', clk'', ?_, v2, by rw [v3, u3, m3]; rfl⟩, hmu.settled, by rw [hG]; simp⟩
    · rw [hget_l, hG, hget_hset, if_pos rfl, if_pos (by simpa using hlt)]
    · rw [hget_l, hG, hget_hset, if_neg (Ne.symm hpm), hget_hset, if_pos rfl, if_pos (by simpa using hltm)]
  have hsw : settle H (avInt .i64 0) G = (avInt .i64 0, some { l := G.l, d := dminO H.d G.d }) := by rw [hG]; exact settle_wrote (hset_wrote hlt)
  unfold renE at he
  have c1 : (vFind a l).isSome = true := by
    cases c1 : (vFind a l).isSome
    · simp [c1] at he
    · rfl
  have c2 : isNameB b = true := by
    cases c2 : isNameB b
    · simp [c1, c2] at he
    · rfl
  have c3 : (vFind b l).isSome = false := by
    cases c3 : (vFind b l).isSome
    · rfl
    · simp [c1, c2, c3] at he
  apply h2.ren.callP (by rfl)
  simp [C_p_store_Store_Rename, q1, q2, e1, c1, c2, c3, u1, v1, hgp, hgp2, hw, -hset_d, -Int.natCast_add]
  rw [← hG, hsw]
  exact fin

/-- What is handed back, when no old object was written. -/
theorem settle_new_or {H H' : Hp} {v : AV} (hm : Mut { l := H.l, d := none } H' []) : ∃ g, settle H v H' = (v, g) ∧ Mut H (g.getD H) [] ∧ ((g = none ∧ v.under H.l.length = true) ∨ (g.getD H).l = H'.l) := by
  by_cases hu : v.under H.l.length = true
  · exact ⟨none, settle_keeps (hm.keeps rfl) hu, Mut.refl _ _, .inl ⟨rfl, hu⟩⟩
  · have hu' : v.under H.l.length = false := by simpa using hu
    exact ⟨_, settle_some hu', hm.settled, .inr rfl⟩

theorem Text_call (h : StoreS Γ A N) (h2 : StoreS2 Γ A N) {H : Hp} {t : TypeId} {p m turn : Nat} {l : List (List UInt8 × AV)} (hs : St H t p m turn l) {s b : List UInt8} (hb : VBytes H (((vFind s l).map Prod.snd).getD avNilS) b) (hl : b.length < 2 ^ 36) :
    ∃ c g, (lim Γ A).call (f_p_store_Store_Text N) [.ptr p 0, avStr s] H = some (.tup [c, avBool (vFind s l).isSome], g) ∧ Mut H (g.getD H) [] ∧ VBytes (g.getD H) c b := by
  obtain ⟨es, clk, m1, m2, m3⟩ := hs.mp
  have hm : hget { l := H.l, d := none } m = some (.map es clk) := m1
  have q1 : hget { l := H.l, d := none } p = some (.cells [.map m, avInt .i64 turn] t) := hs.cell
  have q2 := aLookup_str (s := mkS s) (z := .lit (.slice none 0 0)) hm m2
  rw [m3] at q2
  obtain ⟨c, g, os, k1, k2, k3⟩ := clone_call h.clone (H := { l := H.l, d := none }) (hb.dd none) hl
  obtain ⟨g', s1, s2, s3⟩ := settle_new_or (v := .tup [c, avBool (vFind s l).isSome]) k2.wr
  refine ⟨c, g', ?_, s2, ?_⟩
  · apply h2.text.call (by rfl)
    simp [C_p_store_Store_Text, q1, q2, k1, bindH_opt, s1]
  · rcases k2.row with ⟨rfl, r2, rfl⟩ | ⟨id, rfl, rfl⟩
    · exact .inl (.inl ⟨rfl, r2⟩)
    · obtain ⟨r1, r2⟩ := k2.has _ (List.mem_singleton.2 rfl)
      rcases s3 with ⟨_, hu⟩ | s3
      · simp only [AV.under, AV.unders, Bool.and_eq_true, decide_eq_true_eq] at hu
        have := hu.1
        simp only at r2
        omega
      · refine .inr ⟨id, 0, t_uint8 N, b.map avByte, rfl, ?_, by omega, List.take_of_length_le (by simp)⟩
        unfold hget at r1 ⊢
        rw [s3]; exact r1

theorem Len_call (h2 : StoreS2 Γ A N) {H : Hp} {t : TypeId} {p m turn : Nat} {l : List (List UInt8 × AV)} (hs : St H t p m turn l) : (lim Γ A).call (f_p_store_Store_Len N) [.ptr p 0] H = some (avInt .i64 l.length, none) := by
  obtain ⟨es, clk, m1, m2, m3⟩ := hs.mp
  have hm : hget { l := H.l, d := none } m = some (.map es clk) := m1
  have q1 : hget { l := H.l, d := none } p = some (.cells [.map m, avInt .i64 turn] t) := hs.cell
  have q3 := aLenm_map hm
  rw [m3] at q3
  apply h2.len.call (by rfl)
  simp [C_p_store_Store_Len, q1, q3]

theorem Turn_call (h2 : StoreS2 Γ A N) {H : Hp} {t : TypeId} {p m turn : Nat} {l : List (List UInt8 × AV)} (hs : St H t p m turn l) : (lim Γ A).call (f_p_store_Store_Turn N) [.ptr p 0] H = some (avInt .i64 turn, none) := by
  have q1 : hget { l := H.l, d := none } p = some (.cells [.map m, avInt .i64 turn] t) := hs.cell
  apply h2.turn.call (by rfl)
  simp [C_p_store_Store_Turn, q1]

theorem All_call (h2 : StoreS2 Γ A N) (H : Hp) (p : Nat) : (lim Γ A).call (f_p_store_Store_All N) [.ptr p 0] H = some (.fn (f_p_store_Store_All_1 N) [] [.ptr H.l.length 0], some { l := H.l ++ [some (.cells [.ptr p 0] (t_p_store_Store N))], d := dminO H.d none }) := by
  apply h2.all.call (by rfl)
  simp [C_p_store_Store_All]
  rw [settle_some (by simp [AV.under, AV.unders])]
  rfl
theorem Keys_call (h2 : StoreS2 Γ A N) (H : Hp) (m : Nat) : (lim Γ A).call (f_maps_Keys_map_string_sl_byte_string_sl_byte N) [.map m] H = some (.fn (f_maps_Keys_map_string_sl_byte_string_sl_byte_1 N) [] [.ptr H.l.length 0], some { l := H.l ++ [some (.cells [.map m] (t_map_string_sl_uint8 N))], d := dminO H.d none }) := by
  apply h2.keys.call (by rfl)
  simp [C_maps_Keys_map_string_sl_byte_string_sl_byte]
  rw [settle_some (by simp [AV.under, AV.unders])]
  rfl

theorem sortedR_spec (H : Hp) (tS : TypeId) (ks : List (List UInt8)) : ∃ x g, sortedR H tS ks = (x, g) ∧ Mut H (g.getD H) [] ∧ Vw (g.getD H) 1 x ((sortB ks).map avStr) ∧ (∀ id off n, x = .ra 1 id off n → H.l.length ≤ id) := by
  unfold sortedR
  cases hs : sortB ks with
  | nil => exact ⟨_, _, rfl, Mut.refl _ _, .inl (.inl ⟨rfl, rfl⟩), by simp⟩
  | cons a r =>
    refine ⟨_, _, rfl, (Mut.refl _ _).alloc _, .inr ⟨H.l.length, 0, tS, (a :: r).map avStr, by simp, by simp, by simp, List.take_of_length_le (by simp)⟩, fun id off n e => ?_⟩
    simp only [AV.ra.injEq] at e
    omega

theorem sortB_get {sm : SM} {i : Nat} (hi : i < sm.length) (hn : (sKeys sm).Nodup) : ∃ k b, (sortB (sKeys sm))[i]? = some k ∧ sFind k sm = some b ∧ (k, b) ∈ sm := by
  have hl : (sortB (sKeys sm)).length = sm.length := by rw [(sortB_perm _).length_eq]; simp [sKeys]
  have hi2 : i < (sortB (sKeys sm)).length := by omega
  refine ⟨(sortB (sKeys sm))[i], ?_⟩
  have hk := List.getElem?_eq_getElem hi2
  have hm : (sortB (sKeys sm))[i] ∈ sKeys sm := (sortB_perm _).mem_iff.1 (List.getElem_mem hi2)
  cases hf : sFind (sortB (sKeys sm))[i] sm with
  | none => exact absurd hm (sFind_none.1 hf)
  | some b =>
    refine ⟨b, hk, rfl, ?_⟩
    unfold sFind at hf
    obtain ⟨j, hj, hj2⟩ := Option.bind_eq_some_iff.1 hf
    obtain ⟨b', hb', _⟩ := kpos_some hj
    rw [hb'] at hj2
    simp only [Option.map_some, Option.some.injEq] at hj2
    subst hj2
    exact List.mem_of_getElem? hb'

theorem Mut.stSt {H H' : Hp} {t : TypeId} {p m turn : Nat} {l : List (List UInt8 × AV)} (k : Mut H H' []) (h : St H t p m turn l) : St H' t p m turn l := by
  obtain ⟨c1, es, clk, c2, c3⟩ := h
  exact ⟨k.get' c1 (by simp), es, clk, k.get' c2 (by simp), c3⟩

theorem All1_gen (h : StoreS Γ A N) (h2 : StoreS2 Γ A N) {t tc : TypeId} {p m turn c : Nat} {l : List (List UInt8 × AV)} {sm : SM} (hn : (sKeys sm).Nodup) (hb : ∀ x ∈ sm, x.1.length ≤ maxLen ∧ x.2.length < 2 ^ 36) (hl : sm.length < 2 ^ 36) :
    GenM (lim Γ A) (f_p_store_Store_All_1 N) [] [.ptr c 0] (fun H => hget H c = some (.cells [.ptr p 0] tc) ∧ St H t p m turn l ∧ R2 H l sm) sm.length
      (fun i H args => ∃ k cc b, (sortB (sKeys sm))[i]? = some k ∧ sFind k sm = some b ∧ args = [avStr k, cc] ∧ VBytes H cc b) := by
  intro lp H K Kx S0 hlp hS0 hlS hst hV h00 hstep
  suffices hsuf : ∃ r, (lim Γ A).ent (f_p_store_Store_All_1 N) ([] ++ [AV.yld lp] ++ [.ptr c 0]) H = some r ∧ ∃ H2, (r.2.getD H).l = H2.l ∧ (r.2.getD H).d = dminO H.d H2.d ∧ ((∃ S, K sm.length S H2) ∨ Kx H2) by
    obtain ⟨⟨v, g⟩, e, H2, r1, r2, r3⟩ := hsuf
    exact ⟨v, g, H2, e, r1, r2, r3⟩
  obtain ⟨R, hR⟩ : ∃ R : AV × Option Hp → Prop, R = fun r => ∃ H2, (r.2.getD H).l = H2.l ∧ (r.2.getD H).d = dminO H.d H2.d ∧ ((∃ S, K sm.length S H2) ∨ Kx H2) := ⟨_, rfl⟩
  suffices ∃ r, (lim Γ A).ent (f_p_store_Store_All_1 N) ([] ++ [AV.yld lp] ++ [.ptr c 0]) H = some r ∧ R r by simpa [hR] using this
  obtain ⟨v1, v2, v3⟩ := hV 0 S0 _ h00
  obtain ⟨es, clk, m1, m2, m3⟩ := v2.mp
  have hk1 := Keys_call h2 { l := H.l, d := none } m
  obtain ⟨Hk, hHk⟩ : ∃ Hk, Hk = halloc { l := H.l, d := none } (.cells [.map m] (t_map_string_sl_uint8 N)) := ⟨_, rfl⟩
  have hHk2 : ({ l := H.l ++ [some (.cells [.map m] (t_map_string_sl_uint8 N))], d := dminO none none } : Hp) = Hk := by rw [hHk]; rfl
  simp only [hHk2] at hk1
  have hmk : Mut { l := H.l, d := none } Hk [] := by rw [hHk]; exact (Mut.refl _ _).alloc _
  have hkv : (KV es).map Prod.fst = sKeys sm := by rw [m3]; exact v3.1
  have hkl : ∀ e ∈ KV es, e.1.length ≤ maxLen := by
    intro e he
    have : e.1 ∈ sKeys sm := by rw [← hkv]; exact List.mem_map.2 ⟨e, he, rfl⟩
    obtain ⟨x, hx, hxe⟩ := List.mem_map.1 this
    rw [← hxe]; exact (hb x hx).1
  have hel : es.length < 2 ^ 36 := by
    rw [← KV_length, m3, v3.len]; exact hl
  have hks := h2.sorted Hk H.l.length m es clk (t_map_string_sl_uint8 N) (by rw [hHk]; simp) (hmk.get' m1 (by simp)) m2 hkl hel
  rw [hkv] at hks
  obtain ⟨x, gs, x1, x2, x3, x4⟩ := sortedR_spec Hk (t_string N) (sKeys sm)
  rw [x1] at hks
  have hnl : (sortB (sKeys sm)).length = sm.length := by rw [(sortB_perm _).length_eq]; simp [sKeys]
  have hm2 : Mut { l := H.l, d := none } (gs.getD Hk) [] := hmk.trans x2 (by simp)
  have hxl : asLen x = some sm.length := by have := x3.len; simpa [hnl] using this
  have hHkl : Hk.l.length = H.l.length + 1 := by rw [hHk]; simp
  have q1 : hget { l := H.l, d := none } p = some (.cells [.map m, avInt .i64 turn] t) := v2.cell
  apply h2.all1.entP (by rfl)
  simp [C_p_store_Store_All_1, v1, q1, hk1, hks, bindH_opt, hxl]
  generalize hG : gs.getD Hk = G at *
  refine wp_round (n := sm.length) (fun q ρ H' => ∃ (i : Nat) (S : List Nat), ρ 0 = .yld lp ∧ ρ 1 = .ptr c 0 ∧ ρ 12 = x ∧ ρ 13 = avInt .i64 (sm.length : Nat) ∧ ρ 14 = avInt .i64 (i : Nat) ∧ i ≤ sm.length ∧ K i S H' ∧ Vw H' 1 x ((sortB (sKeys sm)).map avStr) ∧
    (∀ id off k, x = .ra 1 id off k → id ∉ S) ∧ ((i = 0 ∧ Mut { l := H.l, d := none } H' []) ∨ ∃ mm, H'.d = some mm ∧ mm ≤ lp) ∧ q = sm.length - i) ?_ ?_
  · refine ⟨0, S0, rfl, rfl, rfl, rfl, rfl, by omega, hst _ _ _ _ h00 hm2, x3, fun id off k e hs => ?_, .inl ⟨rfl, hm2⟩, rfl⟩
    have := x4 id off k e
    have := hS0 id hs
    omega
  · rintro q ρ H' ⟨i, S, h0, h1, h12, h13, h14, hi, hK, hx, hxS, hd, rfl⟩
    by_cases hlt : i < sm.length
    · have hlt' : (i : Int) < sm.length := by omega
      obtain ⟨w1, w2, w3⟩ := hV i S H' hK
      obtain ⟨k, b, k1, k2, k3⟩ := sortB_get hlt hn
      obtain ⟨pp, p1, p2⟩ := hx.at' (k := .i64) (i := (i : Int)) (e := avStr k) (by omega) (by simp [k1]) rfl rfl rfl
      obtain ⟨es', clk', n1, n2, n3⟩ := w2.mp
      have q2 := aLookup_str' (s := mkS k) (z := .lit (.slice none 0 0)) n1 n2
      rw [n3] at q2
      have hvb := w3.get k
      rw [k2] at hvb
      obtain ⟨cc, g, os, c1, c2, c3⟩ := clone_call h.clone hvb (hb _ k3).2
      have hcc : VBytes (g.getD H') cc b := by
        rcases c2.row with ⟨rfl, r2, rfl⟩ | ⟨id, rfl, rfl⟩
        · exact .inl (.inl ⟨rfl, r2⟩)
        · exact .inr ⟨id, 0, t_uint8 N, b.map avByte, rfl, (c2.has _ (List.mem_singleton.2 rfl)).1, by omega, List.take_of_length_le (by simp)⟩
      obtain ⟨tt, H'', S', y1, y2, y3, y4, y5, y6⟩ := hstep i S (g.getD H') [avStr k, cc] hlt (hst _ _ _ _ hK c2.wr) ⟨k, cc, b, k1, k2, rfl, hcc⟩
      have hw : IntKind.wrap .i64 ((i : Int) + 1) = ((i + 1 : Nat) : Int) := by rw [wrap64 (by omega) (by omega)]; omega
      have w2c : hget H' p = some (.cells [.map m, avInt .i64 turn] t) := w2.cell
      have hglen : H'.l.length ≤ (g.getD H').l.length := c2.wr.len
      cases tt with
      | true =>
        have hx2 : Vw H'' 1 x ((sortB (sKeys sm)).map avStr) := y3.vw (c2.wr.vw hx (by simp)) hxS
        simp [L_p_store_Store_All_1_1, h0, h1, h12, h13, h14, hlt', p1, p2, w1, w2c, q2, c1, bindH_opt, y1, hw, -Int.natCast_add]
        refine ⟨sm.length - (i + 1), by omega, i + 1, rfl, by omega, S', y5 rfl, hx2, fun id off kk e hs => ?_, .inr y2, rfl⟩
        rcases y4 id hs with hs | hs
        · exact hxS id off kk e hs
        · rcases hx with hx | ⟨id', off', e', all', e1, e2, _⟩
          · rcases hx with ⟨rfl, _⟩ | rfl <;> cases e
          · rw [e1] at e
            simp only [AV.ra.injEq] at e
            have := hget_lt e2
            omega
      | false =>
        obtain ⟨mm, d1, d2⟩ := y2
        have hsw := settle_wrote (H := H) (H' := H'') (v := .tup []) ⟨mm, d1, by omega⟩
        simp [L_p_store_Store_All_1_1, h0, h1, h12, h13, h14, hlt', p1, p2, w1, w2c, q2, c1, bindH_opt, y1, hw, -Int.natCast_add]
        rw [hsw, hR]
        exact ⟨H'', rfl, rfl, .inr (y6 rfl)⟩
    · have hi2 : i = sm.length := by omega
      subst hi2
      have hlt' : ¬ (sm.length : Int) < sm.length := by omega
      rcases hd with ⟨i0, hm0⟩ | ⟨mm, d1, d2⟩
      · have hsw := settle_keeps (H := H) (H' := H') (v := .tup []) (hm0.keeps rfl) (by simp [AV.under, AV.unders])
        simp [L_p_store_Store_All_1_1, h0, h1, h12, h13, h14]
        rw [hsw, hR]
        refine ⟨{ l := H.l, d := none }, rfl, rfl, .inl ⟨S0, ?_⟩⟩
        rw [i0]; exact h00
      · have hsw := settle_wrote (H := H) (H' := H') (v := .tup []) ⟨mm, d1, by omega⟩
        simp [L_p_store_Store_All_1_1, h0, h1, h12, h13, h14]
        rw [hsw, hR]
        exact ⟨H', rfl, rfl, .inl ⟨S, hK⟩⟩
end
end Go.Proofs.Eng
/- The laws of the store: an act, and what a store tells, by a model's map. -/
set_option linter.unusedVariables false
set_option linter.unusedSimpArgs false
set_option maxRecDepth 100000
namespace Go.Proofs.Eng
open Go
section
variable {Γ : Sums} {A : Tab} {N : Nat → Nat}

structure SInv (H : Hp) (t : TypeId) (p m mm turn : Nat) (l : List (List UInt8 × AV)) (sm : SM) : Prop where
  st : St H t p m turn l
  mp : ∃ es clk, hget H mm = some (.map es clk) ∧ SKeys es ∧ KV es = sA sm
  r2 : R2 H l sm
  ne : mm ≠ m
  nd : (sKeys sm).Nodup
  nm : ∀ x ∈ sm, x.1.length ≤ 50 ∧ x.2.length ≤ 200 ∧ isNameB x.1 = true

theorem SInv.nep {H : Hp} {t : TypeId} {p m mm turn : Nat} {l : List (List UInt8 × AV)} {sm : SM} (h : SInv H t p m mm turn l sm) : p ≠ mm := by
  rintro rfl
  obtain ⟨es, clk, h1, _⟩ := h.mp
  rw [h.st.cell] at h1
  cases h1
/-- What has bytes is none of the store's own objects. -/
theorem SInv.vb {H H' : Hp} {t : TypeId} {p m mm turn : Nat} {l : List (List UInt8 × AV)} {sm : SM} (h : SInv H t p m mm turn l sm) {W : List Nat} (hW : ∀ i ∈ W, i = p ∨ i = m ∨ i = mm) (k : Mut H H' W) {x : AV} {b : List UInt8} (hx : VBytes H x b) : VBytes H' x b := by
  rcases hx with hx | ⟨id, off, e, all, h0, h1, h2⟩
  · exact .inl hx
  · refine .inr ⟨id, off, e, all, h0, k.get' h1 (fun hw => ?_), h2⟩
    rcases hW id hw with rfl | rfl | rfl
    · rw [h.st.cell] at h1; cases h1
    · obtain ⟨es, clk, c, _⟩ := h.st.mp
      rw [c] at h1; cases h1
    · obtain ⟨es, clk, c, _⟩ := h.mp
      rw [c] at h1; cases h1
theorem SInv.still {H H' : Hp} {t : TypeId} {p m mm turn : Nat} {l : List (List UInt8 × AV)} {sm : SM} (h : SInv H t p m mm turn l sm) (k : Mut H H' []) : SInv H' t p m mm turn l sm := by
  obtain ⟨es, clk, h1, h2⟩ := h.mp
  exact ⟨k.stSt h.st, ⟨es, clk, k.get' h1 (by simp), h2⟩, h.r2.keep fun x b hx => h.vb (W := []) (by simp) k hx, h.ne, h.nd, h.nm⟩

structure StoreL (Γ : Sums) (A : Tab) (N : Nat → Nat) : Prop where
  do' : Has Γ A (f_law23_do N) (C_law23_do N)
  is' : Has Γ A (f_law23_is N) (C_law23_is N)
  name : ∀ (s : List UInt8) (H : Hp), s.length < 2 ^ 36 → (lim Γ A).call (f_ref04_Name N) [avStr s] H = some (avBool (isNameB s), none)
  le : ∀ {f : FuncId} {args : List AV} {H : Hp} {v : AV} {h : Option Hp}, (lim Γ A).call f args H = some (v, h) → HLe H (h.getD H)

theorem HLe.wrote {H H' : Hp} (h : HLe H H') {n : Nat} (k : ∃ m, H.d = some m ∧ m < n) : ∃ m, H'.d = some m ∧ m < n := by
  obtain ⟨m, h1, h2⟩ := k
  obtain ⟨m', h3, h4⟩ := h.d m h1
  exact ⟨m', h3, by omega⟩

def actV (k : Int) (a b : List UInt8) (x : AV) : AV := .agg [avInt .i64 k, avStr a, avStr b, x]
/-- What an act comes to. -/
def DoOut (H : Hp) (t : TypeId) (p m mm turn : Nat) (sm : SM) (g : Option Hp) : Prop :=
  ∃ l' sm' turn', SInv (g.getD H) t p m mm turn' l' sm' ∧ Mut H (g.getD H) [p, m, mm] ∧ turn ≤ turn' ∧ turn' ≤ turn + 1 ∧ sm'.length ≤ sm.length + 1

theorem Mut.weaken {H H' : Hp} {W V : List Nat} (h : Mut H H' W) (hs : ∀ i ∈ W, i ∈ V) : Mut H H' V := by
  refine ⟨h.len, fun i hi hv => h.old i hi fun hw => hv (hs i hw), fun m hm => ?_⟩
  rcases h.d m hm with h1 | h1 | ⟨i, hi, h1⟩
  · exact .inl h1
  · exact .inr (.inl h1)
  · exact .inr (.inr ⟨i, hs i hi, h1⟩)
theorem Mut.dd {H H' : Hp} {W : List Nat} (h : Mut { l := H.l, d := none } H' W) : Mut H H' W := by
  refine ⟨h.len, h.old, fun m hm => ?_⟩
  have := h.d m hm
  simpa using Or.inr this

/-- A model's map is written. -/
theorem SInv.mset {H : Hp} {t : TypeId} {p m mm turn : Nat} {l : List (List UInt8 × AV)} {sm : SM} (hi : SInv H t p m mm turn l sm) (o : AObj) (es' : List (Value × AV × Nat)) (clk' : Nat) :
    ∃ H1, H1 = hset (halloc { l := H.l, d := none } o) mm (some (.map es' clk')) ∧ Mut { l := H.l, d := none } H1 [p, m, mm] ∧ St H1 t p m turn l ∧ hget H1 mm = some (.map es' clk') ∧ (∃ mq, H1.d = some mq ∧ mq < H.l.length) ∧ (∀ x b, VBytes H x b → VBytes H1 x b) ∧ hget H1 H.l.length = some o ∧ hget (halloc { l := H.l, d := none } o) H.l.length = some o := by
  obtain ⟨es, clk, m1, m2, m3⟩ := hi.mp
  have hlt := hget_lt m1
  obtain ⟨H1, hH1⟩ : ∃ H1, H1 = hset (halloc { l := H.l, d := none } o) mm (some (.map es' clk')) := ⟨_, rfl⟩
  have M1 : Mut { l := H.l, d := none } H1 [mm] := by rw [hH1]; exact ((Mut.refl _ [mm]).alloc _).set (.inl (by simp))
  refine ⟨H1, hH1, M1.weaken (by simp), ?_, ?_, ?_, fun x b hx => hi.vb (W := [mm]) (by simp) M1.dd hx, ?_, by simp⟩
  · obtain ⟨v1, es2, clk2, v2, v3⟩ := hi.st.dd none
    exact ⟨M1.get' v1 (by simpa using hi.nep), es2, clk2, M1.get' v2 (by simpa using Ne.symm hi.ne), v3⟩
  · rw [hH1, hget_hset, if_pos rfl, if_pos (by simp; omega)]
  · rw [hH1]; exact hset_wrote hlt
  · rw [hH1, hget_hset, if_neg (by omega)]; simp

theorem sDel_none {k : List UInt8} {sm : SM} (h : (sFind k sm).isSome = false) : sDel k sm = sm := by
  have h2 : sFind k sm = none := by simpa using h
  rw [sFind_none, ← kpos_none] at h2
  unfold sDel; rw [h2]
theorem sFind_mem {k b : List UInt8} {sm : SM} (h : sFind k sm = some b) : (k, b) ∈ sm := by
  unfold sFind at h
  obtain ⟨j, hj, hj2⟩ := Option.bind_eq_some_iff.1 h
  obtain ⟨b', hb', _⟩ := kpos_some hj
  rw [hb'] at hj2
  simp only [Option.map_some, Option.some.injEq] at hj2
  subst hj2
  exact List.mem_of_getElem? hb'

/-- Behind an act: the invariant again. -/
theorem SInv.fin {H g : Hp} {t : TypeId} {p m mm turn turn' : Nat} {l l' : List (List UInt8 × AV)} {sm sm' : SM} {es' : List (Value × AV × Nat)} {clk' : Nat} (hi : SInv H t p m mm turn l sm) (hs : St g t p m turn' l') (hg : hget g mm = some (.map es' clk')) (hk : SKeys es') (hv : KV es' = sA sm') (hr : R2 g l' sm') (hn : (sKeys sm').Nodup) (hm : ∀ x ∈ sm', x.1.length ≤ 50 ∧ x.2.length ≤ 200 ∧ isNameB x.1 = true) (d : Option Nat) :
    SInv { l := g.l, d := d } t p m mm turn' l' sm' :=
  ⟨hs.dd d, ⟨es', clk', hg, hk, hv⟩, hr.keep fun x b hx => hx.dd d, hi.ne, hn, hm⟩

theorem do_call (hs : StoreS Γ A N) (h2 : StoreS2 Γ A N) (hL : StoreL Γ A N) {H : Hp} {t : TypeId} {p m mm turn : Nat} {l : List (List UInt8 × AV)} {sm : SM} (hi : SInv H t p m mm turn l sm) (ht : turn < 2 ^ 59) (hsl : sm.length < 2 ^ 30)
    {k : Int} {a b tx : List UInt8} {x : AV} (ha : a.length ≤ 50) (hb : b.length ≤ 50) (htx : tx.length ≤ 200) (hx : VBytes H x tx) :
    ∃ g, (lim Γ A).call (f_law23_do N) [.ptr p 0, .map mm, actV k a b x] H = some (avBool true, g) ∧ DoOut H t p m mm turn sm g := by
  have hi0 := hi
  have hnep := hi.nep
  obtain ⟨hst, ⟨es, clk, m1, m2, m3⟩, r2, ne, nd, nm⟩ := hi
  have hpm := hst.ne
  have hltp := hget_lt hst.cell
  have hltm : m < H.l.length := by obtain ⟨_, _, c, _⟩ := hst.mp; exact hget_lt c
  have hltmm := hget_lt m1
  have gal : ∀ o i, i < H.l.length → hget (halloc { l := H.l, d := none } o) i = hget H i := fun o i hi => by
    rw [hget_halloc, if_neg (by simp only; omega)]; rfl
  have c1 : ∀ o, St (halloc { l := H.l, d := none } o) t p m turn l := fun o => (hst.dd none).alloc o
  have c2 : ∀ o, hget (halloc { l := H.l, d := none } o) mm = some (.map es clk) := fun o => by rw [gal o mm hltmm]; exact m1
  have c3 : ∀ o, VBytes (halloc { l := H.l, d := none } o) x tx := fun o => hx.keep fun id hid => gal o id hid
  have q : ∀ o s, aLookup (halloc { l := H.l, d := none } o) .string (.lit (.string (mkS []))) true (.string (mkS s)) (.map mm) = some (.tup [((sFind s sm).map avStr).getD (avStr []), avBool (sFind s sm).isSome]) := fun o s => by
    rw [aLookup_str (c2 o) m2, m3]
    simp only [bl_mkS, vFind_sA_get, vFind_sA_isSome]
  have ql : ∀ o, aLenm (halloc { l := H.l, d := none } o) (.map mm) = some (avInt .i64 sm.length) := fun o => by
    rw [aLenm_map (c2 o), m3, sA_len]
  have e1 := fun H => hL.name a H (by omega)
  have e2 := fun H => hL.name b H (by omega)
  have hll := r2.len
  have hsa := r2.isSome a
  have hsb := r2.isSome b
  have same : ∀ r : AV, r = avBool true → DoOut H t p m mm turn sm none := fun _ _ => ⟨l, sm, turn, hi0, Mut.refl _ _, Nat.le_refl _, Nat.le_succ _, Nat.le_succ _⟩
  have c3s := fun o => (c3 o).str
  have hxo : x.one = true := by
    rcases hx with (⟨rfl, _⟩ | rfl) | ⟨id, off, e, all, rfl, _⟩ <;> rfl
  unfold actV
  by_cases hk0 : k = 0
  · subst hk0
    by_cases hna : isNameB a = true
    · by_cases hfull : (sFind a sm).isSome = false ∧ 256 ≤ sm.length
      · have hse : setE a tx.length l = 20 := by
          unfold setE
          rw [hna, hsa, hll]
          simp [hfull]; omega
        have s1 := fun o => Set_err hs (c1 o) (c3 o) (s := a) (by omega) (by rw [hse]; decide)
        simp only [hse] at s1
        have hf2 : (256 : Int) ≤ sm.length := by omega
        refine ⟨none, ?_, same _ rfl⟩
        apply hL.do'.call (by rfl)
        simp [C_law23_do, hxo, q, ql, e1, hna, hfull.1, hf2, s1, settle, keeps]
      · -- the text is set
        have hse : setE a tx.length l = 0 := by
          unfold setE
          rw [hna, hsa, hll]
          simp only [Bool.not_true, Bool.false_eq_true, if_false]
          rw [if_neg (by omega), if_neg hfull]
        obtain ⟨o, ho⟩ : ∃ o, o = AObj.cells [avInt .i64 0, avStr a, avStr b, x] (t_law23_Act N) := ⟨_, rfl⟩
        obtain ⟨es', clk', u1, u2, u3⟩ := aMapupd_str (s := mkS a) (v := avStr tx) (c2 o) m2
        obtain ⟨H1, hH1, M1, k1, k3, hd1, kv, k4, k5⟩ := hi0.mset o es' clk'
        rw [← hH1] at u1
        obtain ⟨c, g, os, s1, s2, s3, s4, s5, _⟩ := Set_ok hs k1 (kv x tx hx) (s := a) (by omega) hse (by omega)
        have hd2 := HLe.wrote (hL.le s1) hd1
        simp only [Option.getD_some] at hd2
        have hsw := settle_wrote (H := H) (H' := g) (v := avBool true) hd2
        have M2 : Mut { l := H.l, d := none } g [p, m, mm] := M1.trans s3 (by simp)
        have hcb : VBytes g c tx := by
          rcases s4 with ⟨rfl, r2, rfl⟩ | ⟨id, rfl, rfl⟩
          · exact .inl (.inl ⟨rfl, r2⟩)
          · exact .inr ⟨id, 0, t_uint8 N, tx.map avByte, rfl, (s5 _ (List.mem_singleton.2 rfl)).1, by omega, List.take_of_length_le (by simp)⟩
        have hI := hi0.fin (turn' := turn + 1) (sm' := sPut a tx sm) (l' := vPut a c l) s2 (s3.get' k3 (by simp [ne, Ne.symm hnep])) u2 (by rw [u3, m3, bl_mkS, sA_put]) ((r2.keep fun y e hy => hi0.vb (by simp) M2.dd hy).put hcb) (sKeys_put_nodup nd)
          (fun y hy => by rcases sPut_mem hy with rfl | hy; exact ⟨ha, htx, hna⟩; exact nm y hy) (dminO H.d g.d)
        refine ⟨some _, ?_, vPut a c l, sPut a tx sm, turn + 1, hI, M2.settled, by omega, by omega, sPut_len⟩
        apply hL.do'.call (by rfl)
        subst ho
        have hnf : ((sFind a sm).isSome = false → ¬ (256 : Int) ≤ sm.length) := fun h1 h2 => hfull ⟨h1, by omega⟩
        cases hf1 : (sFind a sm).isSome
        · have := hnf hf1
          simp [C_law23_do, hxo, q, ql, e1, hna, hf1, this, k4, k5, c3s, u1, s1, -hget_halloc]
          exact hsw
        · simp [C_law23_do, hxo, q, ql, e1, hna, hf1, k4, k5, c3s, u1, s1, -hget_halloc]
          exact hsw
    · have hna' : isNameB a = false := by simpa using hna
      have hse : setE a tx.length l = 7 := by unfold setE; rw [hna']; rfl
      have s1 := fun o => Set_err hs (c1 o) (c3 o) (s := a) (by omega) (by rw [hse]; decide)
      simp only [hse] at s1
      refine ⟨none, ?_, same _ rfl⟩
      apply hL.do'.call (by rfl)
      simp [C_law23_do, hxo, q, ql, e1, hna', s1, settle, keeps]
  · by_cases hk1 : k = 1
    · subst hk1
      obtain ⟨o, ho⟩ : ∃ o, o = AObj.cells [avInt .i64 1, avStr a, avStr b, x] (t_law23_Act N) := ⟨_, rfl⟩
      obtain ⟨es', u1, u2, u3⟩ := aDelete_str (s := mkS a) (c2 o) m2
      obtain ⟨H1, hH1, M1, k1, k3, hd1, kv, k4, k5⟩ := hi0.mset o es' clk
      rw [← hH1] at u1
      have u3' : KV es' = sA (sDel a sm) := by rw [u3, m3, bl_mkS, sA_del]
      cases hf1 : (sFind a sm).isSome
      · have s1 := Delete_err hs k1 (s := a) (by rw [hsa, hf1])
        have hsw := settle_wrote (H := H) (H' := H1) (v := avBool true) hd1
        have hI := hi0.fin (turn' := turn) (sm' := sm) (l' := l) k1 k3 u2 (by rw [u3', sDel_none hf1]) (r2.keep kv) nd nm (dminO H.d H1.d)
        refine ⟨some _, ?_, l, sm, turn, hI, M1.settled, by omega, by omega, by omega⟩
        apply hL.do'.call (by rfl)
        subst ho
        simp [C_law23_do, hxo, q, ql, hf1, k4, k5, u1, s1, -hget_halloc]
        exact hsw
      · obtain ⟨g, s1, s2, s3⟩ := Delete_ok hs k1 (s := a) (by rw [hsa, hf1]) (by omega)
        have hd2 := HLe.wrote (hL.le s1) hd1
        simp only [Option.getD_some] at hd2
        have hsw := settle_wrote (H := H) (H' := g) (v := avBool true) hd2
        have M2 : Mut { l := H.l, d := none } g [p, m, mm] := M1.trans s3 (by simp)
        have hI := hi0.fin (turn' := turn + 1) (sm' := sDel a sm) (l' := vDel a l) s2 (s3.get' k3 (by simp [ne, Ne.symm hnep])) u2 u3' (r2.keep fun y e hy => hi0.vb (by simp) M2.dd hy).del (sKeys_del nd).1
          (fun y hy => nm y (sDel_mem hy)) (dminO H.d g.d)
        refine ⟨some _, ?_, _, sDel a sm, turn + 1, hI, M2.settled, by omega, by omega, by have := sDel_len (k := a) (sm := sm); omega⟩
        apply hL.do'.call (by rfl)
        subst ho
        simp [C_law23_do, hxo, q, ql, hf1, k4, k5, u1, s1, -hget_halloc]
        exact hsw
    · cases hf1 : (sFind a sm).isSome
      · have hre : renE a b l = 13 := by unfold renE; rw [hsa, hf1]; rfl
        have s1 := fun o => Rename_err hs h2 (c1 o) (a := a) (b := b) (by omega) (by rw [hre]; decide)
        simp only [hre] at s1
        refine ⟨none, ?_, same _ rfl⟩
        apply hL.do'.call (by rfl)
        simp [C_law23_do, hxo, q, ql, hf1, hk0, hk1, s1, settle, keeps]
      · cases hnb : isNameB b
        · have hre : renE a b l = 7 := by unfold renE; rw [hsa, hf1, hnb]; rfl
          have s1 := fun o => Rename_err hs h2 (c1 o) (a := a) (b := b) (by omega) (by rw [hre]; decide)
          simp only [hre] at s1
          refine ⟨none, ?_, same _ rfl⟩
          apply hL.do'.call (by rfl)
          simp [C_law23_do, hxo, q, ql, e2, hf1, hnb, hk0, hk1, s1, settle, keeps]
        · cases hf2 : (sFind b sm).isSome
          · have hre : renE a b l = 0 := by unfold renE; rw [hsa, hsb, hf1, hnb, hf2]; rfl
            obtain ⟨v, hv⟩ := Option.isSome_iff_exists.1 hf1
            obtain ⟨o, ho⟩ : ∃ o, o = AObj.cells [avInt .i64 k, avStr a, avStr b, x] (t_law23_Act N) := ⟨_, rfl⟩
            obtain ⟨es', u1, u2, u3⟩ := aDelete_str (s := mkS a) (c2 o) m2
            have hg1 : ∀ c, hget (hset (halloc { l := H.l, d := none } o) mm (some (.map es' c))) mm = some (.map es' c) := fun c => by
              rw [hget_hset, if_pos rfl, if_pos (by simp; omega)]
            have hg2 : hget (hset (halloc { l := H.l, d := none } o) mm (some (.map es' clk))) H.l.length = some o := by
              rw [hget_hset, if_neg (by omega)]; simp
            obtain ⟨es'', clk'', v1, v2, v3⟩ := aMapupd_str (s := mkS b) (v := avStr v) (hg1 clk) u2
            have hss : hset (hset (halloc { l := H.l, d := none } o) mm (some (.map es' clk))) mm (some (.map es'' clk'')) = hset (halloc { l := H.l, d := none } o) mm (some (.map es'' clk'')) := by
              simp [hset, dmin]
            obtain ⟨H1, hH1, M1, k1, k3, hd1, kv, k4, k5⟩ := hi0.mset o es'' clk''
            rw [hss, ← hH1] at v1
            have v3' : KV es'' = sA (sPut b v (sDel a sm)) := by rw [v3, u3, m3, bl_mkS, bl_mkS, sA_del, sA_put]
            obtain ⟨g, s1, s2, s3, _⟩ := Rename_ok hs h2 k1 (a := a) (b := b) (by omega) hre (by omega)
            have hd2 := HLe.wrote (hL.le s1) hd1
            simp only [Option.getD_some] at hd2
            have hsw := settle_wrote (H := H) (H' := g) (v := avBool true) hd2
            have M2 : Mut { l := H.l, d := none } g [p, m, mm] := M1.trans s3 (by simp)
            have r2g := r2.keep fun y e hy => hi0.vb (by simp) M2.dd hy
            have hvb := r2g.get a
            rw [hv] at hvb
            have hI := hi0.fin (turn' := turn + 1) (sm' := sPut b v (sDel a sm)) s2 (s3.get' k3 (by simp [ne, Ne.symm hnep])) v2 v3' (r2g.del.put hvb) (sKeys_put_nodup (sKeys_del nd).1)
              (fun y hy => by rcases sPut_mem hy with rfl | hy; exact ⟨hb, (nm _ (sFind_mem hv)).2.1, hnb⟩; exact nm y (sDel_mem hy)) (dminO H.d g.d)
            have hlen := sPut_len (k := b) (b := v) (sm := sDel a sm)
            have hlen2 := sDel_len (k := a) (sm := sm)
            refine ⟨some _, ?_, _, sPut b v (sDel a sm), turn + 1, hI, M2.settled, by omega, by omega, by omega⟩
            apply hL.do'.call (by rfl)
            subst ho
            simp [C_law23_do, hxo, q, ql, e2, hf1, hf2, hv, hnb, hk0, hk1, u1, k4, k5, hg2, v1, s1, -hget_hset, -hget_halloc]
            exact hsw
          · have hre : renE a b l = 8 := by unfold renE; rw [hsa, hsb, hf1, hnb, hf2]; rfl
            have s1 := fun o => Rename_err hs h2 (c1 o) (a := a) (b := b) (by omega) (by rw [hre]; decide)
            simp only [hre] at s1
            refine ⟨none, ?_, same _ rfl⟩
            apply hL.do'.call (by rfl)
            simp [C_law23_do, hxo, q, ql, e2, hf1, hf2, hnb, hk0, hk1, s1, settle, keeps]

/-- What has bytes is no cell. -/
def arrO : AObj → Bool
  | .arr .. => true
  | _ => false
theorem Loc.vb_mut {H0 H H' : Hp} {os : List (Nat × AObj)} (hl : Loc H0 H os) (hos : ∀ q ∈ os, arrO q.2 = false) (k : Mut H H' (os.map Prod.fst)) {sz : Nat} {x : AV} {es : List AV} (hx : Vw H sz x es) : Vw H' sz x es := by
  rcases hx with hx | ⟨id, off, e, all, h0, h1, h2⟩
  · exact .inl hx
  · refine .inr ⟨id, off, e, all, h0, k.get' h1 (fun hw => ?_), h2⟩
    obtain ⟨q, hq, rfl⟩ := List.mem_map.1 hw
    have := hl.get hq
    rw [h1] at this
    simp only [Option.some.injEq] at this
    have h3 := hos q hq
    rw [← this] at h3
    simp [arrO] at h3
theorem arr_of_loop {o : AObj} (h : isLoopO o = true) : arrO o = false := by cases o <;> simp [isLoopO, arrO] at h ⊢

theorem bytesLess_false {a b : List UInt8} (h : b < a) : (Op.bytesLess a b || a == b) = false := by
  rw [bytesLess_eq]
  have h1 : ¬ a < b := fun h2 => List.lt_irrefl _ (List.lt_trans h2 h)
  have h2 : a ≠ b := by rintro rfl; exact List.lt_irrefl _ h
  simp [h1, h2]

theorem _root_.Go.Proofs.Eng.Vw.loc' {H0 H : Hp} {os : List (Nat × AObj)} {sz : Nat} {x : AV} {es : List AV} (h : Vw H0 sz x es) (hl : Loc H0 H os) : Vw H sz x es := h.keep fun _ hi => hl.oldget hi
theorem is_call (hs : StoreS Γ A N) (h2 : StoreS2 Γ A N) (hL : StoreL Γ A N) {H : Hp} {t : TypeId} {p m mm turn clk : Nat} {l : List (List UInt8 × AV)} {sm sm2 : SM} {es : List (Value × AV × Nat)} (hst : St H t p m turn l) (hr : R2 H l sm) (hmm : hget H mm = some (.map es clk)) (hsk : SKeys es) (hkv : KV es = sA sm2)
    (hsame : ∀ k, sFind k sm2 = sFind k sm) (hlen : sm2.length = sm.length) (nd : (sKeys sm).Nodup) (nm : ∀ x ∈ sm, x.1.length ≤ 50 ∧ x.2.length ≤ 200 ∧ isNameB x.1 = true) (hsl : sm.length < 2 ^ 30) :
    (lim Γ A).call (f_law23_is N) [.ptr p 0, .map mm] H = some (avBool true, none) := by
  have hgen := All1_gen hs h2 (t := t) (tc := t_p_store_Store N) (p := p) (m := m) (turn := turn) (c := H.l.length + 1 + 1 + 1 + 1 + 1) (l := l) nd (fun x hx => ⟨by have := (nm x hx).1; simp [maxLen]; omega, by have := (nm x hx).2.1; omega⟩) (by omega)
  obtain ⟨oo, hoo⟩ : ∃ oo : Nat → List UInt8 → List (Nat × AObj), ∀ i last, oo i last = [(H.l.length + 1 + 1 + 1 + 1 + 1, .cells [.ptr p 0] (t_p_store_Store N)), (H.l.length + 1 + 1 + 1 + 1, .cells [avInt .i64 i] (t_int N)), (H.l.length + 1 + 1 + 1, .cells [avStr last] (t_string N)),
      (H.l.length + 1 + 1, .cells [avBool false] (t_bool N)), (H.l.length + 1, .cells [.map mm] (t_map_string_string N)), (H.l.length, .cells [.ptr p 0] (t_p_store_Store N))] := ⟨_, fun _ _ => rfl⟩
  have hids : ∀ i last i' last', (oo i last).map Prod.fst = (oo i' last').map Prod.fst := fun i last i' last' => by simp [hoo]
  have hna : ∀ i last, ∀ q ∈ oo i last, arrO q.2 = false := fun i last q hq => by
    rw [hoo] at hq
    simp only [List.mem_cons, List.not_mem_nil, or_false] at hq
    rcases hq with rfl | rfl | rfl | rfl | rfl | rfl <;> rfl
  have oldSt : ∀ {H' : Hp} {os : List (Nat × AObj)}, Loc H H' os → St H' t p m turn l ∧ R2 H' l sm ∧ hget H' mm = some (.map es clk) := fun {H' os} hL => by
    obtain ⟨v1, es2, clk2, v2, v3⟩ := hst
    exact ⟨⟨by rw [hL.oldget (hget_lt v1)]; exact v1, es2, clk2, by rw [hL.oldget (hget_lt v2)]; exact v2, v3⟩, hr.keep fun x b hx => hx.loc' hL, by rw [hL.oldget (hget_lt hmm)]; exact hmm⟩
  apply hL.is'.call (by rfl)
  have eA := fun H => All_call h2 H p
  simp [C_law23_is, setFrom, eA, -halloc_d, -hset_d]
  have L1 := (((((((Loc.start H).alloc (.cells [.ptr p 0] (t_p_store_Store N))).alloc (.cells [.map mm] (t_map_string_string N))).alloc (.cells [avBool false] (t_bool N))).alloc (.cells [avStr []] (t_string N))).set (.cells [avStr []] (t_string N))).alloc (.cells [avInt .i64 0] (t_int N))).set (.cells [avInt .i64 0] (t_int N))
  have L2 := L1.alloc (.cells [.ptr p 0] (t_p_store_Store N))
  generalize hX : Hp.mk _ _ = HX
  have L3 : Loc H HX (oo 0 []) := by
    rw [← hX, hoo]
    simp only [hset_len, halloc_len] at L2
    exact L2
  refine wp_rangeFnM (g := f_p_store_Store_All_1 N) (fs := []) (cs := [.ptr (H.l.length + 1 + 1 + 1 + 1 + 1) 0]) (by simp [upd_at]) hgen rfl L3
    (fun i os' => ∃ last, os' = oo i last ∧ (0 < i → (sortB (sKeys sm))[i - 1]? = some last)) (fun _ _ => False) ?_ ⟨[], rfl, by omega⟩ ?_ ?_
  · rintro i H' l' o os' hL' ⟨last, rfl, _⟩
    obtain ⟨s1, s2, _⟩ := oldSt hL'
    refine ⟨hL'.get (p := (H.l.length + 1 + 1 + 1 + 1 + 1, .cells [.ptr p 0] (t_p_store_Store N))) (by simp [hoo]), s1, s2⟩
  · rintro i hi l' lo lb H' os' args hlo hlb hL' ⟨last, rfl, hlast⟩ ⟨k, cc, b, k1, k2, rfl, hvb⟩
    refine ⟨rfl, ?_⟩
    simp [L_law23_is_1]
    refine ⟨_, hL', Mut.refl _ _, fun H1 hL1 hM1 => ?_⟩
    obtain ⟨s1, s2, s3⟩ := oldSt hL1
    have hvb1 : VBytes H1 cc b := hL'.vb_mut (by
      intro q hq
      rcases List.mem_cons.1 hq with rfl | hq
      · exact arr_of_loop hlo
      · exact hna _ _ q hq) hM1 hvb
    have hb1 := s2.get k
    rw [k2] at hb1
    obtain ⟨c2, g, t1, t2, t3⟩ := Text_call hs h2 s1 hb1 (by have := (nm _ (sFind_mem k2)).2.1; simp only [Option.getD_some] at this ⊢; omega)
    have hvis := s2.isSome k
    rw [k2] at hvis
    have q1 := aLookup_str (s := mkS k) (z := .lit (.string (mkS []))) s3 hsk
    rw [hkv] at q1
    simp only [bl_mkS, vFind_sA_get, vFind_sA_isSome, hsame, k2] at q1
    generalize hG : g.getD H1 = G at t2 t3
    have hLG := hL1.still t2
    have hvb2 : VBytes G cc b := t2.vw hvb1 (by simp)
    have f2 := hL1.get (p := (H.l.length, .cells [.ptr p 0] (t_p_store_Store N))) (by simp [hoo])
    have f3 := hL1.get (p := (H.l.length + 1, .cells [.map mm] (t_map_string_string N))) (by simp [hoo])
    have g5 := hLG.get (p := (H.l.length + 1 + 1 + 1, .cells [avStr last] (t_string N))) (by simp [hoo])
    have g6 := hLG.get (p := (H.l.length + 1 + 1 + 1 + 1, .cells [avInt .i64 i] (t_int N))) (by simp [hoo])
    simp only at f2 f3 g5 g6
    have e1 := hvb2.str
    have e2 := t3.str
    have hLG' : Loc H G ([(l', lb), (H.l.length + 1 + 1 + 1 + 1 + 1, .cells [.ptr p 0] (t_p_store_Store N)), (H.l.length + 1 + 1 + 1 + 1, .cells [avInt .i64 i] (t_int N))] ++ (H.l.length + 1 + 1 + 1, .cells [avStr last] (t_string N)) :: [(H.l.length + 1 + 1, .cells [avBool false] (t_bool N)), (H.l.length + 1, .cells [.map mm] (t_map_string_string N)), (H.l.length, .cells [.ptr p 0] (t_p_store_Store N))]) := by
      rw [hoo] at hLG; exact hLG
    have hL3 := hLG'.setMid (.cells [avStr k] (t_string N))
    have hL3' : Loc H (hset G (H.l.length + 1 + 1 + 1) (some (.cells [avStr k] (t_string N)))) ([(l', lb), (H.l.length + 1 + 1 + 1 + 1 + 1, .cells [.ptr p 0] (t_p_store_Store N))] ++ (H.l.length + 1 + 1 + 1 + 1, .cells [avInt .i64 i] (t_int N)) :: [(H.l.length + 1 + 1 + 1, .cells [avStr k] (t_string N)), (H.l.length + 1 + 1, .cells [avBool false] (t_bool N)), (H.l.length + 1, .cells [.map mm] (t_map_string_string N)), (H.l.length, .cells [.ptr p 0] (t_p_store_Store N))]) := hL3
    have g6' := hL3.get (p := (H.l.length + 1 + 1 + 1 + 1, .cells [avInt .i64 i] (t_int N))) (by simp)
    have hL4 := hL3'.setMid (.cells [avInt .i64 ((i + 1 : Nat) : Int)] (t_int N))
    simp only at g6'
    have hw : IntKind.wrap .i64 ((i : Int) + 1) = ((i + 1 : Nat) : Int) := by rw [wrap64 (by omega) (by omega)]; omega
    have hM2 : Mut H' G (l' :: (oo i last).map Prod.fst) := hM1.trans t2 (by simp)
    have hM4 : Mut H' (hset (hset G (H.l.length + 1 + 1 + 1) (some (.cells [avStr k] (t_string N)))) (H.l.length + 1 + 1 + 1 + 1) (some (.cells [avInt .i64 ((i + 1 : Nat) : Int)] (t_int N)))) (l' :: (oo i last).map Prod.fst) :=
      (hM2.set (.inl (by simp [hoo]))).set (.inl (by simp [hoo]))
    have fin : ∃ os2, Loc H (hset (hset G (H.l.length + 1 + 1 + 1) (some (.cells [avStr k] (t_string N)))) (H.l.length + 1 + 1 + 1 + 1) (some (.cells [avInt .i64 ((i + 1 : Nat) : Int)] (t_int N)))) ((l', lb) :: os2) ∧ Mut H' (hset (hset G (H.l.length + 1 + 1 + 1) (some (.cells [avStr k] (t_string N)))) (H.l.length + 1 + 1 + 1 + 1) (some (.cells [avInt .i64 ((i + 1 : Nat) : Int)] (t_int N)))) (l' :: (oo i last).map Prod.fst) ∧
        (∀ s ∈ os2.map Prod.fst, s ∈ (oo i last).map Prod.fst ∨ H'.l.length ≤ s) ∧ (∃ last', os2 = oo (i + 1) last' ∧ (0 < i + 1 → (sortB (sKeys sm))[i + 1 - 1]? = some last')) := by
      refine ⟨oo (i + 1) k, ?_, hM4, fun s hs => .inl (by rw [hids i last (i + 1) k]; exact hs), k, rfl, fun _ => by simpa using k1⟩
      rw [hoo]; simpa using hL4
    have hlt3 := hget_lt g5
    have hlt6 := hget_lt g6'
    have fin2 : (∃ os2, Loc H (hset (hset G (H.l.length + 1 + 1 + 1) (some (.cells [avStr k] (t_string N)))) (H.l.length + 1 + 1 + 1 + 1) (some (.cells [avInt .i64 ((i + 1 : Nat) : Int)] (t_int N)))) ((l', lb) :: os2) ∧ Mut H' (hset (hset G (H.l.length + 1 + 1 + 1) (some (.cells [avStr k] (t_string N)))) (H.l.length + 1 + 1 + 1 + 1) (some (.cells [avInt .i64 ((i + 1 : Nat) : Int)] (t_int N)))) (l' :: (oo i last).map Prod.fst) ∧
        (∀ (s : Nat) (x : AObj), (s, x) ∈ os2 → (∃ x, (s, x) ∈ oo i last) ∨ H'.l.length ≤ s) ∧ (∃ last', os2 = oo (i + 1) last' ∧ (sortB (sKeys sm))[i]? = some last')) := by
      obtain ⟨os2, r1, r2, r3, last', r4, r5⟩ := fin
      refine ⟨os2, r1, r2, fun s x hx => ?_, last', r4, r5 (by omega)⟩
      rcases r3 s (List.mem_map.2 ⟨(s, x), hx, rfl⟩) with r3 | r3
      · obtain ⟨⟨s', x'⟩, r6, rfl⟩ := List.mem_map.1 r3
        exact .inl ⟨x', r6⟩
      · exact .inr r3
    by_cases hi0 : i = 0
    · subst hi0
      have w01 : IntKind.i64.wrap 1 = 1 := by decide
      simp [L_law23_is_2, f2, f3, q1, t1, bindH_opt, hG, hvis, g5, g6, e1, e2, hlt3, g6', w01, -hset_d, -halloc_d, -Int.natCast_add, -hget_hset]
      exact fin2
    · have hpos : 0 < i := by omega
      have hls := hlast hpos
      have hlk : last < k := by
        have hst := sortB_strict nd
        have hi2 : i < (sortB (sKeys sm)).length := (List.getElem?_eq_some_iff.1 k1).1
        have e1 := (List.getElem?_eq_some_iff.1 k1).2
        have e2 := (List.getElem?_eq_some_iff.1 hls).2
        have := List.pairwise_iff_getElem.1 hst (i - 1) i (by omega) hi2 (by omega)
        rw [e1, e2] at this
        exact this
      have hbl := bytesLess_false hlk
      simp [L_law23_is_2, f2, f3, q1, t1, bindH_opt, hG, hvis, g5, g6, hpos, hbl, e1, e2, hlt3, g6', hw, -hset_d, -halloc_d, -Int.natCast_add, -hget_hset]
      exact fin2
  · rintro x H2 os2 hL2 (⟨rfl, last, rfl, _⟩ | ⟨_, hF⟩)
    · obtain ⟨s1, s2, s3⟩ := oldSt hL2
      have f2 := hL2.get (p := (H.l.length, .cells [.ptr p 0] (t_p_store_Store N))) (by simp [hoo])
      have f3 := hL2.get (p := (H.l.length + 1, .cells [.map mm] (t_map_string_string N))) (by simp [hoo])
      have g4 := hL2.get (p := (H.l.length + 1 + 1, .cells [avBool false] (t_bool N))) (by simp [hoo])
      have g6 := hL2.get (p := (H.l.length + 1 + 1 + 1 + 1, .cells [avInt .i64 sm.length] (t_int N))) (by simp [hoo])
      simp only at f2 f3 g4 g6
      have hlen1 := Len_call h2 s1
      have hlm := aLenm_map s3
      rw [hkv, sA_len, hlen] at hlm
      have hlen2 := Len_call h2 (s1.dd none)
      rw [s2.len] at hlen1 hlen2
      have hlt4 := hget_lt g4
      have hLg : Loc H H2 ([(H.l.length + 1 + 1 + 1 + 1 + 1, .cells [.ptr p 0] (t_p_store_Store N)), (H.l.length + 1 + 1 + 1 + 1, .cells [avInt .i64 sm.length] (t_int N)), (H.l.length + 1 + 1 + 1, .cells [avStr last] (t_string N))] ++ (H.l.length + 1 + 1, .cells [avBool false] (t_bool N)) :: [(H.l.length + 1, .cells [.map mm] (t_map_string_string N)), (H.l.length, .cells [.ptr p 0] (t_p_store_Store N))]) := by
        rw [hoo] at hL2; exact hL2
      have hL5 := hLg.setMid (.cells [avBool true] (t_bool N))
      have hse := settle_keeps (v := avBool true) hL5.keeps (by simp [AV.under])
      simp [K_law23_is_1, f2, f3, g4, g6, hlm, hlen1, hlen2, hlt4, -hset_d, -halloc_d, -Int.natCast_add]
      exact hse
    · exact hF.elim
end
end Go.Proofs.Eng
/- The law StoreRounds, run by the engine. -/
set_option linter.unusedVariables false
set_option linter.unusedSimpArgs false
set_option maxRecDepth 100000
namespace Go.Proofs.Eng
open Go
theorem sFind_cons (k x c : List UInt8) (r : SM) : sFind k ((x, c) :: r) = if k = x then some c else sFind k r := by
  unfold sFind sKeys
  simp only [List.map_cons, kpos]
  split
  · rfl
  · cases kpos k (List.map Prod.fst r) <;> simp
theorem sPut_cons (k b x c : List UInt8) (r : SM) : sPut k b ((x, c) :: r) = if k = x then (k, b) :: r else (x, c) :: sPut k b r := by
  unfold sPut sKeys
  simp only [List.map_cons, kpos]
  by_cases h : k = x
  · simp [h]
  · simp only [h, if_false]
    cases kpos k (List.map Prod.fst r) <;> simp
theorem sDel_cons (k x c : List UInt8) (r : SM) : sDel k ((x, c) :: r) = if k = x then r else (x, c) :: sDel k r := by
  unfold sDel sKeys
  simp only [List.map_cons, kpos]
  by_cases h : k = x
  · simp [h]
  · simp only [h, if_false]
    cases kpos k (List.map Prod.fst r) <;> simp
theorem sFind_put (k b y : List UInt8) : ∀ sm : SM, sFind y (sPut k b sm) = if y = k then some b else sFind y sm
  | [] => by
    show sFind y [(k, b)] = _
    rw [sFind_cons]
  | (x, c) :: r => by
    rw [sPut_cons, sFind_cons]
    by_cases h : k = x
    · rw [if_pos h, sFind_cons]
      by_cases h2 : y = k
      · simp [h2]
      · rw [if_neg h2, if_neg h2, if_neg (by rw [← h]; exact h2)]
    · rw [if_neg h, sFind_cons, sFind_put k b y r]
      by_cases h2 : y = x
      · rw [if_pos h2, if_neg (by rw [h2]; exact Ne.symm h), if_pos h2]
      · rw [if_neg h2, if_neg h2]
theorem sFind_del (k y : List UInt8) : ∀ sm : SM, (sKeys sm).Nodup → sFind y (sDel k sm) = if y = k then none else sFind y sm
  | [], _ => by
    show sFind y [] = _
    split <;> rfl
  | (x, c) :: r, hn => by
    have hn' : x ∉ sKeys r ∧ (sKeys r).Nodup := by simpa [sKeys] using hn
    rw [sDel_cons, sFind_cons]
    by_cases h : k = x
    · rw [if_pos h]
      by_cases h2 : y = k
      · rw [if_pos h2, sFind_none, h2, h]; exact hn'.1
      · rw [if_neg h2, if_neg (by rw [← h]; exact h2)]
    · rw [if_neg h, sFind_cons, sFind_del k y r hn'.2]
      by_cases h2 : y = x
      · rw [if_pos h2, if_neg (by rw [h2]; exact Ne.symm h), if_pos h2]
      · rw [if_neg h2, if_neg h2]
theorem sPut_new {k b : List UInt8} {sm : SM} (h : sFind k sm = none) : (sPut k b sm).length = sm.length + 1 := by
  rw [sFind_none, ← kpos_none] at h
  unfold sPut; rw [h]; simp
theorem sDel_old {k : List UInt8} {sm : SM} (h : (sFind k sm).isSome = true) : (sDel k sm).length + 1 = sm.length := by
  unfold sDel
  cases hk : kpos k (sKeys sm) with
  | none =>
    rw [sFind_none.2 (kpos_none.1 hk)] at h
    simp at h
  | some i =>
    obtain ⟨b, _, hi⟩ := kpos_some hk
    simp only [List.length_eraseIdx_of_lt hi]
    omega

section
variable {Γ : Sums} {A : Tab} {N : Nat → Nat}

/-- An act as an argument. -/
def IsAct (e : AV) : Prop := ∃ k a b y ty, e = actV k a b y ∧ IsBytes y ty
theorem SInv.names {H : Hp} {t : TypeId} {p m mm turn : Nat} {l : List (List UInt8 × AV)} {sm : SM} (h : SInv H t p m mm turn l sm) : True := trivial

theorem rounds_end (hs : StoreS Γ A N) (h2 : StoreS2 Γ A N) (hL : StoreL Γ A N) {H : Hp} {t : TypeId} {p m mm turn : Nat} {l : List (List UInt8 × AV)} {sm : SM} (hi : SInv H t p m mm turn l sm) (ht : turn < 2 ^ 50) (hsl : sm.length < 2 ^ 20) {a b : List UInt8} (ha : a.length ≤ 50) (hb : b.length ≤ 50) :
    (renE a b l ≠ 0 ∧ (lim Γ A).call (f_p_store_Store_Rename N) [.ptr p 0, avStr a, avStr b] H = some (avInt .i64 (renE a b l), none) ∧ (lim Γ A).call (f_law23_is N) [.ptr p 0, .map mm] H = some (avBool true, none)) ∨
    (∃ g g2, (lim Γ A).call (f_p_store_Store_Rename N) [.ptr p 0, avStr a, avStr b] H = some (avInt .i64 0, some g) ∧ (lim Γ A).call (f_p_store_Store_Rename N) [.ptr p 0, avStr b, avStr a] g = some (avInt .i64 0, some g2) ∧ (lim Γ A).call (f_law23_is N) [.ptr p 0, .map mm] g2 = some (avBool true, none)) := by
  obtain ⟨es, clk, m1, m2, m3⟩ := hi.mp
  by_cases hre : renE a b l = 0
  · right
    have hre0 := hre
    unfold renE at hre
    rw [hi.r2.isSome, hi.r2.isSome] at hre
    have c1 : (sFind a sm).isSome = true := by cases c : (sFind a sm).isSome <;> simp [c] at hre ⊢
    have c2 : isNameB b = true := by cases c : isNameB b <;> simp [c1, c] at hre ⊢
    have c3 : (sFind b sm).isSome = false := by cases c : (sFind b sm).isSome <;> simp [c1, c2, c] at hre ⊢
    obtain ⟨v, hv⟩ := Option.isSome_iff_exists.1 c1
    have c3' : sFind b sm = none := by simpa using c3
    have hab : a ≠ b := by rintro rfl; rw [c3'] at hv; cases hv
    obtain ⟨hla, hlv, hna⟩ := hi.nm _ (sFind_mem hv)
    obtain ⟨g, r1, r2, r3, _⟩ := Rename_ok hs h2 hi.st (a := a) (b := b) (by omega) hre0 (by omega)
    have M1 : Mut H g [p, m, mm] := r3.weaken (by simp)
    have R1 := hi.r2.keep fun y e hy => hi.vb (by simp) M1 hy
    have hvb := R1.get a
    rw [hv] at hvb
    have R2' := R1.del (k := a) |>.put (k := b) hvb
    simp only [Option.getD_some] at R2'
    have nd1 := (sKeys_del (k := a) hi.nd).1
    have nd2 := sKeys_put_nodup (k := b) (b := v) nd1
    have f1 : ∀ y, sFind y (sPut b v (sDel a sm)) = if y = b then some v else if y = a then none else sFind y sm := fun y => by rw [sFind_put, sFind_del _ _ _ hi.nd]
    have hre2 : renE b a (vPut b (((vFind a l).map Prod.snd).getD avNilS) (vDel a l)) = 0 := by
      unfold renE
      rw [R2'.isSome, R2'.isSome, f1, f1]
      simp [hna, hab]
    obtain ⟨g2, q1, q2, q3, _⟩ := Rename_ok hs h2 r2 (a := b) (b := a) (by omega) hre2 (by omega)
    have hpm := hi.st.ne
    have hnep := hi.nep
    have hmg : hget g mm = some (.map es clk) := r3.get' m1 (by simp [hi.ne, Ne.symm hnep])
    have hmg2 : hget g2 mm = some (.map es clk) := q3.get' hmg (by simp [hi.ne, Ne.symm hnep])
    have kv2 : ∀ y e, VBytes g y e → VBytes g2 y e := fun y e hy => by
      rcases hy with hy | ⟨id, off, e', all, h0, h1, h3⟩
      · exact .inl hy
      · refine .inr ⟨id, off, e', all, h0, q3.get' h1 (fun hw => ?_), h3⟩
        simp only [List.mem_cons, List.not_mem_nil, or_false] at hw
        rcases hw with rfl | rfl
        · rw [r2.cell] at h1; cases h1
        · obtain ⟨_, _, c, _⟩ := r2.mp
          rw [c] at h1; cases h1
    have R3 := R2'.keep kv2
    have hvb2 := R3.get b
    rw [f1, if_pos rfl] at hvb2
    have R4 := R3.del (k := b) |>.put (k := a) hvb2
    simp only [Option.getD_some] at R4
    have nd3 := (sKeys_del (k := b) nd2).1
    have nd4 := sKeys_put_nodup (k := a) (b := v) nd3
    have f2 : ∀ y, sFind y (sPut a v (sDel b (sPut b v (sDel a sm)))) = sFind y sm := fun y => by
      rw [sFind_put, sFind_del _ _ _ nd2, f1]
      by_cases h1 : y = a
      · rw [if_pos h1, h1, hv]
      · rw [if_neg h1]
        by_cases h2 : y = b
        · rw [if_pos h2, h2, c3']
        · rw [if_neg h2, if_neg h2, if_neg h1]
    have len1 : (sPut a v (sDel b (sPut b v (sDel a sm)))).length = sm.length := by
      have l1 := sDel_old c1
      have l2 : (sPut b v (sDel a sm)).length = (sDel a sm).length + 1 := sPut_new (by rw [sFind_del _ _ _ hi.nd, c3']; simp)
      have l3 : (sDel b (sPut b v (sDel a sm))).length + 1 = (sPut b v (sDel a sm)).length := sDel_old (by rw [f1]; simp)
      have l4 : (sPut a v (sDel b (sPut b v (sDel a sm)))).length = (sDel b (sPut b v (sDel a sm))).length + 1 := sPut_new (by rw [sFind_del _ _ _ nd2, f1]; simp [hab])
      omega
    refine ⟨g, g2, r1, q1, is_call hs h2 hL q2 R4 hmg2 m2 m3 (fun k => (f2 k).symm) len1.symm nd4 (fun y hy => ?_) (by rw [len1]; omega)⟩
    rcases sPut_mem hy with rfl | hy
    · exact ⟨ha, hlv, hna⟩
    · rcases sPut_mem (sDel_mem hy) with rfl | hy
      · exact ⟨hb, hlv, c2⟩
      · exact hi.nm y (sDel_mem hy)
  · left
    exact ⟨hre, Rename_err hs h2 hi.st (by omega) hre, is_call hs h2 hL hi.st hi.r2 m1 m2 m3 (fun _ => rfl) rfl hi.nd hi.nm (by omega)⟩

theorem law_StoreRounds (hs : StoreS Γ A N) (h2 : StoreS2 Γ A N) (hL : StoreL Γ A N) (h : Has Γ A (f_law23_StoreRounds N) (C_law23_StoreRounds N)) (hlives : (lim Γ A).call (f_law23_lives N) [] { l := [], d := none } = some (avBool true, none)) {x : AV} {es : List AV} (hx : Fzr 4 x es) (hes : ∀ e ∈ es, IsAct e) (hel : es.length < 2 ^ 63) {a b : List UInt8} (hal : a.length < 2 ^ 63) (hbl : b.length < 2 ^ 63) :
    ∃ r, (lim Γ A).ent (f_law23_StoreRounds N) [x, avStr a, avStr b] { l := [], d := none } = some r ∧ r.1 = avBool true := by
  have hxl : asLen x = some es.length := by rcases hx with ⟨rfl, rfl⟩ | rfl <;> rfl
  apply h.entP (by rfl)
  obtain ⟨R, hR⟩ : ∃ R : AV × Option Hp → Prop, R = fun r => r.1 = avBool true := ⟨_, rfl⟩
  have hR2 : ∀ v g, v = avBool true → R (v, g) := fun v g e => by rw [hR]; exact e
  have hR3 : ∀ v H H', v = avBool true → R (settle H v H') := fun v H H' e => by rw [hR]; simpa using e
  rw [← hR]
  by_cases c1 : 40 < es.length
  · have c1' : (40 : Int) < es.length := by omega
    simp [C_law23_StoreRounds, hlives, hxl, c1, c1']
    exact hR2 _ _ rfl
  by_cases c2 : 50 < a.length
  · have c1' : ¬ (40 : Int) < es.length := by omega
    have c2' : (50 : Int) < a.length := by omega
    simp [C_law23_StoreRounds, hlives, hxl, c1, c1', c2, c2']
    exact hR2 _ _ rfl
  by_cases c3 : 50 < b.length
  · have c1' : ¬ (40 : Int) < es.length := by omega
    have c2' : ¬ (50 : Int) < a.length := by omega
    have c3' : (50 : Int) < b.length := by omega
    simp [C_law23_StoreRounds, hlives, hxl, c1, c1', c2, c2', c3, c3']
    exact hR2 _ _ rfl
  have c1' : ¬ (40 : Int) < es.length := by omega
  have c2' : ¬ (50 : Int) < a.length := by omega
  have c3' : ¬ (50 : Int) < b.length := by omega
  obtain ⟨g, p, m, n1, n2, n3, n4, n5⟩ := New_call hs { l := [], d := none }
  simp [C_law23_StoreRounds, hlives, hxl, c1, c1', c2, c2', c3, c3', n1]
  have s0 : SInv (halloc g (.map [] 0)) (t_store_Store N) p m g.l.length 0 [] [] := by
    have k1 := hget_lt n2.cell
    refine ⟨n2.alloc _, ⟨[], 0, by simp, by simp [SKeys], rfl⟩, R2.nil, ?_, by simp [sKeys], by simp⟩
    obtain ⟨_, _, c, _⟩ := n2.mp
    have := hget_lt c
    omega
  refine wp_round (n := es.length) (fun q ρ H' => ∃ (i turn : Nat) (l : List (List UInt8 × AV)) (sm : SM), ρ 0 = x ∧ ρ 1 = avStr a ∧ ρ 2 = avStr b ∧ ρ 7 = .ptr p 0 ∧ ρ 8 = .map g.l.length ∧ ρ 31 = x ∧ ρ 32 = avInt .i64 (es.length : Nat) ∧ ρ 33 = avInt .i64 (i : Nat) ∧ i ≤ es.length ∧
    SInv H' (t_store_Store N) p m g.l.length turn l sm ∧ turn ≤ i ∧ sm.length ≤ i ∧ q = es.length - i) ?_ ?_
  · exact ⟨0, 0, [], [], rfl, rfl, rfl, rfl, rfl, rfl, rfl, rfl, by omega, s0, by omega, by simp, rfl⟩
  · rintro q ρ H' ⟨i, turn, l, sm, h0, h1, h2', h7, h8, h31, h32, h33, hi, hI, hti, hsi, rfl⟩
    by_cases hlt : i < es.length
    · have hlt' : (i : Int) < es.length := by omega
      have hg := List.getElem?_eq_getElem hlt
      obtain ⟨k, u, v, y, ty, e1, e2⟩ := hes _ (List.getElem_mem hlt)
      rw [e1] at hg
      have hyv : ∀ H, VBytes H y ty := fun H => e2.v
      have hyl : asLen y = some ty.length := by have := (hyv H').len; simpa using this
      have hyo : y.one = true := by rcases e2 with ⟨rfl, _⟩ | rfl <;> rfl
      have hxa : aiaddr 4 x (.lit (.int .i64 (i : Int))) = some (.vp [avInt .i64 k, avStr u, avStr v, y]) := by
        rcases hx with ⟨rfl, rfl⟩ | rfl
        · simp at hlt
        · exact aiaddr_sln hg (by simp [actV, hyo])
      have hw : IntKind.wrap .i64 ((i : Int) + 1) = ((i + 1 : Nat) : Int) := by rw [wrap64 (by omega) (by omega)]; omega
      by_cases d1 : 200 < ty.length
      · have d1' : (200 : Int) < ty.length := by omega
        simp [L_law23_StoreRounds_1, h0, h1, h2', h7, h8, h31, h32, h33, hlt', hxa, loadC, hyo, hyl, d1, d1']
        exact hR3 _ _ _ rfl
      have d1' : ¬ (200 : Int) < ty.length := by omega
      by_cases d2 : 50 < u.length
      · have d2' : (50 : Int) < u.length := by omega
        simp [L_law23_StoreRounds_1, h0, h1, h2', h7, h8, h31, h32, h33, hlt', hxa, loadC, hyo, hyl, d1, d1', d2, d2']
        exact hR3 _ _ _ rfl
      have d2' : ¬ (50 : Int) < u.length := by omega
      by_cases d3 : 50 < v.length
      · have d3' : (50 : Int) < v.length := by omega
        simp [L_law23_StoreRounds_1, h0, h1, h2', h7, h8, h31, h32, h33, hlt', hxa, loadC, hyo, hyl, d1, d1', d2, d2', d3, d3']
        exact hR3 _ _ _ rfl
      have d3' : ¬ (50 : Int) < v.length := by omega
      have hI1 := hI.still (((Mut.refl H' []).alloc (.cells [.lit (.int .i64 0), .lit (.string (mkS [])), .lit (.string (mkS [])), .lit (.slice none 0 0)] (t_law23_Act N))).set (i := H'.l.length) (o := some (.cells [avInt .i64 k, avStr u, avStr v, y] (t_law23_Act N))) (.inr (Nat.le_refl _)))
      obtain ⟨gd, q1, l', sm', turn', q2, q3, q4, q5, q6⟩ := do_call hs h2 hL hI1 (by omega) (by omega) (k := k) (by omega) (by omega) (by omega) (hyv _) (a := u) (b := v) (x := y)
      unfold actV at q1
      simp [L_law23_StoreRounds_1, h0, h1, h2', h7, h8, h31, h32, h33, hlt', hxa, loadC, hyo, hyl, d1, d1', d2, d2', d3, d3', q1, bindH_opt, hw, -hset_d, -halloc_d, -Int.natCast_add]
      exact ⟨es.length - (i + 1), by omega, i + 1, rfl, by omega, turn', l', sm', q2, by omega, by omega, rfl⟩
    · have hi2 : i = es.length := by omega
      subst hi2
      rcases rounds_end hs h2 hL hI (by omega) (by omega) (a := a) (b := b) (by omega) (by omega) with ⟨r1, r2, r3⟩ | ⟨g1, g2, r1, r2, r3⟩
      · simp [L_law23_StoreRounds_1, K_law23_StoreRounds_1, h0, h1, h2', h7, h8, h31, h32, h33, r1, r2, r3]
        exact hR3 _ _ _ rfl
      · simp [L_law23_StoreRounds_1, K_law23_StoreRounds_1, h0, h1, h2', h7, h8, h31, h32, h33, r1, r2, r3]
        exact hR3 _ _ _ rfl
end
end Go.Proofs.Eng
/- Templates of functions, as the engine takes them; numbers of functions and types by names. Printed by tm.py. -/
set_option linter.unusedVariables false
set_option maxRecDepth 100000
namespace Go.Proofs.Eng
open Go

/-- azimuth/azimuthref04.Name -/
def C_ref04_Name (N : Nat → Nat) : AFunc := ⟨10, [.inl 2],
 .seq (
  .ops [⟨(some 2), .mov (.c (.lit (.bool false))), none⟩]) (
 .seq (
  .ops [⟨(some 3), .mov (.t 0), none⟩, ⟨(some 4), .call (.c (.fn (f_ref04_Tag N) [] [])) [(.t 3)], none⟩, ⟨(some 5), .mov (.t 4), none⟩, ⟨(some 6), .mov (.t 0), (some (5, true))⟩, ⟨(some 7), .call (.c (.fn (f_ref03_IsWord N) [] [])) [(.t 6)], (some (5, true))⟩, ⟨(some 8), .un .not (.t 7), (some (5, true))⟩, ⟨(some 9), .pick (.t 5) (.t 8) (.c (.lit (.bool false))), none⟩, ⟨(some 2), .mov (.t 9), none⟩]) (
 .ret)), false⟩

def L_ref04_Tag_1 (N : Nat → Nat) : AC :=
    .seq (
     .seq (
      .ops [⟨(some 6), .mov (.t 3), none⟩, ⟨(some 7), .mov (.t 0), none⟩, ⟨(some 8), .lens (.t 7), none⟩, ⟨(some 9), .bin .lss (.t 6) (.t 8), none⟩]) (
     .cond (.t 9) (
      .skip) (
      .exit 0))) (
    .seq (
     .block 1 (
      .seq (
       .ops [⟨(some 12), .mov (.t 0), none⟩, ⟨(some 13), .mov (.t 3), none⟩, ⟨(some 14), .sidx (.t 12) (.t 13), none⟩, ⟨(some 4), .mov (.t 14), none⟩]) (
      .seq (
       .ops [⟨(some 15), .mov (.t 4), none⟩, ⟨(some 16), .bin .geq (.t 15) (.c (.lit (.int .u8 97))), none⟩, ⟨(some 17), .mov (.t 16), none⟩, ⟨(some 18), .mov (.t 4), (some (17, true))⟩, ⟨(some 19), .bin .leq (.t 18) (.c (.lit (.int .u8 122))), (some (17, true))⟩, ⟨(some 20), .pick (.t 17) (.t 19) (.c (.lit (.bool false))), none⟩, ⟨(some 21), .mov (.t 20), none⟩, ⟨(some 22), .mov (.t 4), (some (21, false))⟩, ⟨(some 23), .eq false .pint (.t 22) (.c (.lit (.int .u8 95))), (some (21, false))⟩, ⟨(some 24), .pick (.t 21) (.c (.lit (.bool true))) (.t 23), none⟩, ⟨(some 5), .mov (.t 24), none⟩]) (
      .seq (
       .ops [⟨(some 25), .mov (.t 5), none⟩, ⟨(some 26), .un .not (.t 25), none⟩, ⟨(some 27), .mov (.t 26), none⟩, ⟨(some 28), .mov (.t 3), (some (27, true))⟩, ⟨(some 29), .eq false .pint (.t 28) (.c (.lit (.int .i64 0))), (some (27, true))⟩, ⟨(some 30), .mov (.t 29), (some (27, true))⟩, ⟨(some 31), .mov (.t 4), (some (30, false))⟩, ⟨(some 32), .bin .lss (.t 31) (.c (.lit (.int .u8 48))), (some (30, false))⟩, ⟨(some 33), .pick (.t 30) (.c (.lit (.bool true))) (.t 32), (some (27, true))⟩, ⟨(some 34), .mov (.t 33), (some (27, true))⟩, ⟨(some 35), .mov (.t 4), (some (34, false))⟩, ⟨(some 36), .bin .gtr (.t 35) (.c (.lit (.int .u8 57))), (some (34, false))⟩, ⟨(some 37), .pick (.t 34) (.c (.lit (.bool true))) (.t 36), (some (27, true))⟩, ⟨(some 38), .pick (.t 27) (.t 37) (.c (.lit (.bool false))), none⟩]) (
      .cond (.t 38) (
       .seq (
        .ops [⟨(some 2), .mov (.c (.lit (.bool false))), none⟩]) (
       .ret)) (
       .skip)))))) (
    .ops [⟨(some 10), .mov (.t 3), none⟩, ⟨(some 11), .bin .add (.t 10) (.c (.lit (.int .i64 1))), none⟩, ⟨(some 3), .mov (.t 11), none⟩]))
def K_ref04_Tag_1 (N : Nat → Nat) : AC :=
 .seq (
  .ops [⟨(some 39), .mov (.t 0), none⟩, ⟨(some 40), .eq true .pstr (.t 39) (.c (.lit (.string (mkS [])))), none⟩, ⟨(some 2), .mov (.t 40), none⟩]) (
 .ret)
/-- azimuth/azimuthref04.Tag -/
def C_ref04_Tag (N : Nat → Nat) : AFunc := ⟨41, [.inl 2],
 .seq (
  .ops [⟨(some 2), .mov (.c (.lit (.bool false))), none⟩]) (
 .seq (
  .seq (
   .ops [⟨(some 3), .mov (.c (.lit (.int .i64 0))), none⟩]) (
  .block 0 (
   .loop (L_ref04_Tag_1 N)))) (K_ref04_Tag_1 N)), false⟩
end Go.Proofs.Eng
/- Templates of functions, as the engine takes them; numbers of functions and types by names. Printed by tm.py. -/
set_option linter.unusedVariables false
set_option maxRecDepth 100000
namespace Go.Proofs.Eng
open Go

def L_ref03_IsWord_1 (N : Nat → Nat) : AC :=
    .seq (
     .seq (
      .ops [⟨(some 7), .mov (.t 3), none⟩, ⟨(some 8), .mov (.t 0), none⟩, ⟨(some 9), .lens (.t 8), none⟩, ⟨(some 10), .bin .lss (.t 7) (.t 9), none⟩]) (
     .cond (.t 10) (
      .skip) (
      .exit 0))) (
    .seq (
     .block 1 (
      .seq (
       .ops [⟨(some 13), .mov (.t 0), none⟩, ⟨(some 14), .mov (.t 3), none⟩, ⟨(some 15), .sidx (.t 13) (.t 14), none⟩, ⟨(some 16), .bin .lss (.t 15) (.c (.lit (.int .u8 97))), none⟩, ⟨(some 17), .mov (.t 16), none⟩, ⟨(some 18), .mov (.t 0), (some (17, false))⟩, ⟨(some 19), .mov (.t 3), (some (17, false))⟩, ⟨(some 20), .sidx (.t 18) (.t 19), (some (17, false))⟩, ⟨(some 21), .bin .gtr (.t 20) (.c (.lit (.int .u8 122))), (some (17, false))⟩, ⟨(some 22), .pick (.t 17) (.c (.lit (.bool true))) (.t 21), none⟩]) (
      .cond (.t 22) (
       .seq (
        .ops [⟨(some 2), .mov (.c (.lit (.bool false))), none⟩]) (
       .ret)) (
       .skip)))) (
    .ops [⟨(some 11), .mov (.t 3), none⟩, ⟨(some 12), .bin .add (.t 11) (.c (.lit (.int .i64 1))), none⟩, ⟨(some 3), .mov (.t 12), none⟩]))
def L_ref03_IsWord_2 (N : Nat → Nat) : AC :=
    .seq (
     .seq (
      .ops [⟨(some 23), .mov (.t 4), none⟩, ⟨(some 24), .mov (.t 0), none⟩, ⟨(some 25), .lens (.t 24), none⟩, ⟨(some 26), .bin .add (.t 23) (.t 25), none⟩, ⟨(some 27), .bin .add (.t 26) (.c (.lit (.int .i64 2))), none⟩, ⟨(some 28), .bin .leq (.t 27) (.c (.lit (.int .i64 89))), none⟩]) (
     .cond (.t 28) (
      .skip) (
      .exit 2))) (
    .seq (
     .block 3 (
      .seq (
       .ops [⟨(some 31), .mov (.t 4), none⟩, ⟨(some 32), .mov (.t 4), none⟩, ⟨(some 33), .mov (.t 0), none⟩, ⟨(some 34), .lens (.t 33), none⟩, ⟨(some 35), .bin .add (.t 32) (.t 34), none⟩, ⟨(some 36), .bin .add (.t 35) (.c (.lit (.int .i64 2))), none⟩, ⟨(some 37), .slstr (.c (.lit (.string (mkS [32, 102, 117, 110, 32, 108, 101, 116, 32, 114, 101, 99, 32, 105, 110, 32, 105, 102, 32, 116, 104, 101, 110, 32, 101, 108, 115, 101, 32, 99, 97, 115, 101, 32, 111, 102, 32, 101, 110, 100, 32, 116, 114, 117, 101, 32, 102, 97, 108, 115, 101, 32, 105, 110, 116, 32, 98, 111, 111, 108, 32, 115, 116, 114, 32, 102, 108, 111, 97, 116, 32, 100, 121, 110, 32, 97, 110, 121, 32, 110, 111, 110, 101, 32, 116, 121, 112, 101, 32])))) (some (.t 31)) (some (.t 36)), none⟩, ⟨(some 38), .mov (.t 0), none⟩, ⟨(some 39), .bin .add (.c (.lit (.string (mkS [32])))) (.t 38), none⟩, ⟨(some 40), .bin .add (.t 39) (.c (.lit (.string (mkS [32])))), none⟩, ⟨(some 41), .eq false .pstr (.t 37) (.t 40), none⟩]) (
      .cond (.t 41) (
       .seq (
        .ops [⟨(some 2), .mov (.c (.lit (.bool true))), none⟩]) (
       .ret)) (
       .skip)))) (
    .ops [⟨(some 29), .mov (.t 4), none⟩, ⟨(some 30), .bin .add (.t 29) (.c (.lit (.int .i64 1))), none⟩, ⟨(some 4), .mov (.t 30), none⟩]))
def K_ref03_IsWord_2 (N : Nat → Nat) : AC :=
 .seq (
  .ops [⟨(some 2), .mov (.c (.lit (.bool false))), none⟩]) (
 .ret)
def K_ref03_IsWord_1 (N : Nat → Nat) : AC :=
 .seq (
  .seq (
   .ops [⟨(some 4), .mov (.c (.lit (.int .i64 0))), none⟩]) (
  .block 2 (
   .loop (L_ref03_IsWord_2 N)))) (K_ref03_IsWord_2 N)
/-- azimuth/azimuthref03.IsWord -/
def C_ref03_IsWord (N : Nat → Nat) : AFunc := ⟨42, [.inl 2],
 .seq (
  .ops [⟨(some 2), .mov (.c (.lit (.bool false))), none⟩]) (
 .seq (
  .seq (
   .ops [⟨(some 5), .mov (.t 0), none⟩, ⟨(some 6), .eq false .pstr (.t 5) (.c (.lit (.string (mkS [])))), none⟩]) (
  .cond (.t 6) (
   .seq (
    .ops [⟨(some 2), .mov (.c (.lit (.bool false))), none⟩]) (
   .ret)) (
   .skip))) (
 .seq (
  .seq (
   .ops [⟨(some 3), .mov (.c (.lit (.int .i64 0))), none⟩]) (
  .block 0 (
   .loop (L_ref03_IsWord_1 N)))) (K_ref03_IsWord_1 N))), false⟩

def L_ref03_Lex_2 (N : Nat → Nat) : AC :=
          .seq (
           .seq (
            .ops [⟨(some 80), .mov (.t 8), none⟩, ⟨(some 81), .mov (.t 0), none⟩, ⟨(some 82), .len (.t 81), none⟩, ⟨(some 83), .bin .lss (.t 80) (.t 82), none⟩, ⟨(some 84), .mov (.t 83), none⟩, ⟨(some 85), .mov (.t 0), (some (84, true))⟩, ⟨(some 86), .mov (.t 8), (some (84, true))⟩, ⟨(some 87), .iaddr 1 (.t 85) (.t 86), (some (84, true))⟩, ⟨(some 88), .load none (.t 87), (some (84, true))⟩, ⟨(some 89), .eq true .pint (.t 88) (.c (.lit (.int .u8 10))), (some (84, true))⟩, ⟨(some 90), .pick (.t 84) (.t 89) (.c (.lit (.bool false))), none⟩]) (
           .cond (.t 90) (
            .skip) (
            .exit 2))) (
          .block 3 (
           .ops [⟨(some 91), .mov (.t 8), none⟩, ⟨(some 92), .bin .add (.t 91) (.c (.lit (.int .i64 1))), none⟩, ⟨(some 8), .mov (.t 92), none⟩]))
def K_ref03_Lex_1 (N : Nat → Nat) : AC :=
 .exit 1
def K_ref03_Lex_2 (N : Nat → Nat) : AC :=
 .seq (
  .ops [⟨(some 94), .mov (.t 0), none⟩, ⟨(some 95), .mov (.t 8), none⟩, ⟨(some 96), .call (.c (.fn (f_ref03_one N) [] [])) [(.t 94), (.t 95)], none⟩, ⟨(some 93), .mov (.t 96), none⟩, ⟨(some 97), .extract (.t 93) 0, none⟩, ⟨(some 98), .extract (.t 93) 1, none⟩, ⟨(some 9), .new (t_api_Token N) (.agg [(.lit (.int .i64 0)), (.lit (.string (mkS []))), (.lit (.int .i64 0))]), none⟩, ⟨none, .store 3 (.t 9) (.t 97), none⟩, ⟨(some 10), .mov (.t 98), none⟩]) (
 .seq (
  .seq (
   .ops [⟨(some 99), .mov (.t 10), none⟩, ⟨(some 100), .eq false .pint (.t 99) (.c (.lit (.int .i64 0))), none⟩]) (
  .cond (.t 100) (
   .seq (
    .ops [⟨(some 101), .mov (.t 8), none⟩, ⟨(some 102), .build [(.lit (.int .i64 0)), (.lit (.int .i64 0)), (.lit (.string (mkS [])))] [(0, 1, (.c (.lit (.int .i64 3)))), (1, 1, (.t 101))], none⟩, ⟨(some 2), .mov (.c (.lit (.slice none 0 0))), none⟩, ⟨none, .store 3 (.t 3) (.t 102), none⟩]) (
   .ret)) (
   .skip))) (
 .seq (
  .ops [⟨(some 103), .mov (.t 8), none⟩, ⟨(some 104), .faddr 2 (.t 9), none⟩, ⟨none, .store 1 (.t 104) (.t 103), none⟩]) (
 .seq (
  .ops [⟨(some 105), .mov (.t 7), none⟩, ⟨(some 106), .load (some 3) (.t 9), none⟩, ⟨(some 107), .bslice (t_api_Token N) 3 (some 3) 1 [(.lit (.int .i64 0)), (.lit (.string (mkS []))), (.lit (.int .i64 0))] [(0, 3, (.t 106))], none⟩, ⟨(some 108), .append (t_api_Token N) 3 32 (.t 105) (.t 107), none⟩, ⟨(some 7), .mov (.t 108), none⟩]) (
 .ops [⟨(some 109), .mov (.t 8), none⟩, ⟨(some 110), .mov (.t 10), none⟩, ⟨(some 111), .bin .add (.t 109) (.t 110), none⟩, ⟨(some 8), .mov (.t 111), none⟩]))))
def L_ref03_Lex_1 (N : Nat → Nat) : AC :=
    .seq (
     .seq (
      .ops [⟨(some 28), .mov (.t 8), none⟩, ⟨(some 29), .mov (.t 0), none⟩, ⟨(some 30), .len (.t 29), none⟩, ⟨(some 31), .bin .lss (.t 28) (.t 30), none⟩]) (
     .cond (.t 31) (
      .skip) (
      .exit 0))) (
    .block 1 (
     .seq (
      .seq (
       .ops [⟨(some 32), .mov (.t 0), none⟩, ⟨(some 33), .mov (.t 8), none⟩, ⟨(some 34), .iaddr 1 (.t 32) (.t 33), none⟩, ⟨(some 35), .load none (.t 34), none⟩, ⟨(some 36), .eq false .pint (.t 35) (.c (.lit (.int .u8 32))), none⟩, ⟨(some 37), .mov (.t 36), none⟩, ⟨(some 38), .mov (.t 0), (some (37, false))⟩, ⟨(some 39), .mov (.t 8), (some (37, false))⟩, ⟨(some 40), .iaddr 1 (.t 38) (.t 39), (some (37, false))⟩, ⟨(some 41), .load none (.t 40), (some (37, false))⟩, ⟨(some 42), .eq false .pint (.t 41) (.c (.lit (.int .u8 9))), (some (37, false))⟩, ⟨(some 43), .pick (.t 37) (.c (.lit (.bool true))) (.t 42), none⟩, ⟨(some 44), .mov (.t 43), none⟩, ⟨(some 45), .mov (.t 0), (some (44, false))⟩, ⟨(some 46), .mov (.t 8), (some (44, false))⟩, ⟨(some 47), .iaddr 1 (.t 45) (.t 46), (some (44, false))⟩, ⟨(some 48), .load none (.t 47), (some (44, false))⟩, ⟨(some 49), .eq false .pint (.t 48) (.c (.lit (.int .u8 10))), (some (44, false))⟩, ⟨(some 50), .pick (.t 44) (.c (.lit (.bool true))) (.t 49), none⟩, ⟨(some 51), .mov (.t 50), none⟩, ⟨(some 52), .mov (.t 0), (some (51, false))⟩, ⟨(some 53), .mov (.t 8), (some (51, false))⟩, ⟨(some 54), .iaddr 1 (.t 52) (.t 53), (some (51, false))⟩, ⟨(some 55), .load none (.t 54), (some (51, false))⟩, ⟨(some 56), .eq false .pint (.t 55) (.c (.lit (.int .u8 13))), (some (51, false))⟩, ⟨(some 57), .pick (.t 51) (.c (.lit (.bool true))) (.t 56), none⟩]) (
      .cond (.t 57) (
       .seq (
        .ops [⟨(some 58), .mov (.t 8), none⟩, ⟨(some 59), .bin .add (.t 58) (.c (.lit (.int .i64 1))), none⟩, ⟨(some 8), .mov (.t 59), none⟩]) (
       .exit 1)) (
       .skip))) (
     .seq (
      .seq (
       .ops [⟨(some 60), .mov (.t 0), none⟩, ⟨(some 61), .mov (.t 8), none⟩, ⟨(some 62), .iaddr 1 (.t 60) (.t 61), none⟩, ⟨(some 63), .load none (.t 62), none⟩, ⟨(some 64), .eq false .pint (.t 63) (.c (.lit (.int .u8 47))), none⟩, ⟨(some 65), .mov (.t 64), none⟩, ⟨(some 66), .mov (.t 8), (some (65, true))⟩, ⟨(some 67), .bin .add (.t 66) (.c (.lit (.int .i64 1))), (some (65, true))⟩, ⟨(some 68), .mov (.t 0), (some (65, true))⟩, ⟨(some 69), .len (.t 68), (some (65, true))⟩, ⟨(some 70), .bin .lss (.t 67) (.t 69), (some (65, true))⟩, ⟨(some 71), .pick (.t 65) (.t 70) (.c (.lit (.bool false))), none⟩, ⟨(some 72), .mov (.t 71), none⟩, ⟨(some 73), .mov (.t 0), (some (72, true))⟩, ⟨(some 74), .mov (.t 8), (some (72, true))⟩, ⟨(some 75), .bin .add (.t 74) (.c (.lit (.int .i64 1))), (some (72, true))⟩, ⟨(some 76), .iaddr 1 (.t 73) (.t 75), (some (72, true))⟩, ⟨(some 77), .load none (.t 76), (some (72, true))⟩, ⟨(some 78), .eq false .pint (.t 77) (.c (.lit (.int .u8 47))), (some (72, true))⟩, ⟨(some 79), .pick (.t 72) (.t 78) (.c (.lit (.bool false))), none⟩]) (
      .cond (.t 79) (
       .seq (
        .block 2 (
         .loop (L_ref03_Lex_2 N))) (K_ref03_Lex_1 N)) (
       .skip))) (K_ref03_Lex_2 N))))
def K_ref03_Lex_3 (N : Nat → Nat) : AC :=
 .seq (
  .ops [⟨(some 112), .mov (.t 7), none⟩, ⟨(some 113), .mov (.t 8), none⟩, ⟨(some 114), .build [(.lit (.int .i64 0)), (.lit (.string (mkS []))), (.lit (.int .i64 0))] [(0, 1, (.c (.lit (.int .i64 0)))), (2, 1, (.t 113))], none⟩, ⟨(some 115), .bslice (t_api_Token N) 3 (some 3) 1 [(.lit (.int .i64 0)), (.lit (.string (mkS []))), (.lit (.int .i64 0))] [(0, 3, (.t 114))], none⟩, ⟨(some 116), .append (t_api_Token N) 3 32 (.t 112) (.t 115), none⟩, ⟨(some 117), .build [(.lit (.int .i64 0)), (.lit (.int .i64 0)), (.lit (.string (mkS [])))] [], none⟩, ⟨(some 2), .mov (.t 116), none⟩, ⟨none, .store 3 (.t 3) (.t 117), none⟩]) (
 .ret)
/-- azimuth/azimuthref03.Lex -/
def C_ref03_Lex (N : Nat → Nat) : AFunc := ⟨118, [.inl 2, .inr (3, (some 3))],
 .seq (
  .ops [⟨(some 2), .mov (.c (.lit (.slice none 0 0))), none⟩, ⟨(some 3), .new (t_api_Diag N) (.agg [(.lit (.int .i64 0)), (.lit (.int .i64 0)), (.lit (.string (mkS [])))]), none⟩]) (
 .seq (
  .seq (
   .ops [⟨(some 11), .mov (.t 0), none⟩, ⟨(some 12), .len (.t 11), none⟩, ⟨(some 13), .bin .gtr (.t 12) (.c (.lit (.int .i64 1048576))), none⟩]) (
  .cond (.t 13) (
   .seq (
    .ops [⟨(some 14), .build [(.lit (.int .i64 0)), (.lit (.int .i64 0)), (.lit (.string (mkS [])))] [(0, 1, (.c (.lit (.int .i64 6))))], none⟩, ⟨(some 2), .mov (.c (.lit (.slice none 0 0))), none⟩, ⟨none, .store 3 (.t 3) (.t 14), none⟩]) (
   .ret)) (
   .skip))) (
 .seq (
  .ops [⟨(some 16), .mov (.t 0), none⟩, ⟨(some 17), .call (.c (.fn (f_ref01_Signs N) [] [])) [(.t 16)], none⟩, ⟨(some 15), .mov (.t 17), none⟩, ⟨(some 18), .extract (.t 15) 0, none⟩, ⟨(some 19), .extract (.t 15) 1, none⟩, ⟨(some 20), .extract (.t 15) 2, none⟩, ⟨(some 4), .mov (.t 18), none⟩, ⟨(some 5), .mov (.t 19), none⟩, ⟨(some 6), .mov (.t 20), none⟩]) (
 .seq (
  .seq (
   .ops [⟨(some 21), .mov (.t 6), none⟩, ⟨(some 22), .mov (.t 0), none⟩, ⟨(some 23), .len (.t 22), none⟩, ⟨(some 24), .bin .lss (.t 21) (.t 23), none⟩]) (
  .cond (.t 24) (
   .seq (
    .ops [⟨(some 25), .mov (.t 6), none⟩, ⟨(some 26), .build [(.lit (.int .i64 0)), (.lit (.int .i64 0)), (.lit (.string (mkS [])))] [(0, 1, (.c (.lit (.int .i64 2)))), (1, 1, (.t 25))], none⟩, ⟨(some 2), .mov (.c (.lit (.slice none 0 0))), none⟩, ⟨none, .store 3 (.t 3) (.t 26), none⟩]) (
   .ret)) (
   .skip))) (
 .seq (
  .ops [⟨(some 27), .bslice (t_api_Token N) 3 (some 3) 0 [(.lit (.int .i64 0)), (.lit (.string (mkS []))), (.lit (.int .i64 0))] [], none⟩, ⟨(some 7), .mov (.t 27), none⟩]) (
 .seq (
  .ops [⟨(some 8), .mov (.c (.lit (.int .i64 0))), none⟩]) (
 .seq (
  .block 0 (
   .loop (L_ref03_Lex_1 N))) (K_ref03_Lex_3 N))))))), true⟩

def L_ref03_Same_1 (N : Nat → Nat) : AC :=
    .seq (
     .ops [⟨(some 14), .bin .lss (.t 13) (.t 12), none⟩]) (
    .seq (
     .cond (.t 14) (
      .skip) (
      .exit 0)) (
    .seq (
     .block 1 (
      .seq (
       .ops [⟨(some 15), .mov (.t 13), none⟩, ⟨(some 5), .mov (.t 15), none⟩]) (
      .seq (
       .dops 6 [⟨(some 16), .mov (.t 0), none⟩, ⟨(some 17), .mov (.t 5), none⟩, ⟨(some 18), .iaddr 3 (.t 16) (.t 17), none⟩, ⟨(some 19), .load (some 3) (.t 18), none⟩, ⟨(some 20), .mov (.t 1), none⟩, ⟨(some 21), .mov (.t 5), none⟩, ⟨(some 22), .iaddr 3 (.t 20) (.t 21), none⟩, ⟨(some 23), .load (some 3) (.t 22), none⟩, ⟨(some 24), .eq true (.struct [(0, none, .pint), (1, none, .pstr), (2, none, .pint)]) (.t 19) (.t 23), none⟩] [0, 0, 0, 2, 0, 0, 0, 2, 0] []) (
      .cond (.t 24) (
       .seq (
        .ops [⟨(some 4), .mov (.c (.lit (.bool false))), none⟩]) (
       .ret)) (
       .skip))))) (
    .ops [⟨(some 25), .bin .add (.t 13) (.c (.lit (.int .i64 1))), none⟩, ⟨(some 13), .mov (.t 25), none⟩])))
def K_ref03_Same_1 (N : Nat → Nat) : AC :=
 .seq (
  .ops [⟨(some 4), .mov (.c (.lit (.bool true))), none⟩]) (
 .ret)
/-- azimuth/azimuthref03.Same -/
def C_ref03_Same (N : Nat → Nat) : AFunc := ⟨26, [.inl 4],
 .seq (
  .ops [⟨(some 4), .mov (.c (.lit (.bool false))), none⟩]) (
 .seq (
  .seq (
   .ops [⟨(some 6), .mov (.t 0), none⟩, ⟨(some 7), .len (.t 6), none⟩, ⟨(some 8), .mov (.t 1), none⟩, ⟨(some 9), .len (.t 8), none⟩, ⟨(some 10), .eq true .pint (.t 7) (.t 9), none⟩]) (
  .cond (.t 10) (
   .seq (
    .ops [⟨(some 4), .mov (.c (.lit (.bool false))), none⟩]) (
   .ret)) (
   .skip))) (
 .seq (
  .seq (
   .ops [⟨(some 11), .mov (.t 0), none⟩, ⟨(some 12), .len (.t 11), none⟩, ⟨(some 13), .mov (.c (.lit (.int .i64 0))), none⟩]) (
  .block 0 (
   .loop (L_ref03_Same_1 N)))) (K_ref03_Same_1 N))), false⟩

/-- azimuth/azimuthref03.digit -/
def C_ref03_digit (N : Nat → Nat) : AFunc := ⟨9, [.inl 2],
 .seq (
  .ops [⟨(some 2), .mov (.c (.lit (.bool false))), none⟩]) (
 .seq (
  .ops [⟨(some 3), .mov (.t 0), none⟩, ⟨(some 4), .bin .geq (.t 3) (.c (.lit (.int .u8 48))), none⟩, ⟨(some 5), .mov (.t 4), none⟩, ⟨(some 6), .mov (.t 0), (some (5, true))⟩, ⟨(some 7), .bin .leq (.t 6) (.c (.lit (.int .u8 57))), (some (5, true))⟩, ⟨(some 8), .pick (.t 5) (.t 7) (.c (.lit (.bool false))), none⟩, ⟨(some 2), .mov (.t 8), none⟩]) (
 .ret)), false⟩

/-- azimuth/azimuthref03.hex -/
def C_ref03_hex (N : Nat → Nat) : AFunc := ⟨13, [.inl 2],
 .seq (
  .ops [⟨(some 2), .mov (.c (.lit (.bool false))), none⟩]) (
 .seq (
  .ops [⟨(some 3), .mov (.t 0), none⟩, ⟨(some 4), .call (.c (.fn (f_ref03_digit N) [] [])) [(.t 3)], none⟩, ⟨(some 5), .mov (.t 4), none⟩, ⟨(some 6), .mov (.t 0), (some (5, false))⟩, ⟨(some 7), .bin .geq (.t 6) (.c (.lit (.int .u8 97))), (some (5, false))⟩, ⟨(some 8), .mov (.t 7), (some (5, false))⟩, ⟨(some 9), .mov (.t 0), (some (8, true))⟩, ⟨(some 10), .bin .leq (.t 9) (.c (.lit (.int .u8 102))), (some (8, true))⟩, ⟨(some 11), .pick (.t 8) (.t 10) (.c (.lit (.bool false))), (some (5, false))⟩, ⟨(some 12), .pick (.t 5) (.c (.lit (.bool true))) (.t 11), none⟩, ⟨(some 2), .mov (.t 12), none⟩]) (
 .ret)), false⟩

/-- azimuth/azimuthref03.high -/
def C_ref03_high (N : Nat → Nat) : AFunc := ⟨9, [.inl 2],
 .seq (
  .ops [⟨(some 2), .mov (.c (.lit (.bool false))), none⟩]) (
 .seq (
  .ops [⟨(some 3), .mov (.t 0), none⟩, ⟨(some 4), .bin .geq (.t 3) (.c (.lit (.int .u8 65))), none⟩, ⟨(some 5), .mov (.t 4), none⟩, ⟨(some 6), .mov (.t 0), (some (5, true))⟩, ⟨(some 7), .bin .leq (.t 6) (.c (.lit (.int .u8 90))), (some (5, true))⟩, ⟨(some 8), .pick (.t 5) (.t 7) (.c (.lit (.bool false))), none⟩, ⟨(some 2), .mov (.t 8), none⟩]) (
 .ret)), false⟩

/-- azimuth/azimuthref03.low -/
def C_ref03_low (N : Nat → Nat) : AFunc := ⟨13, [.inl 2],
 .seq (
  .ops [⟨(some 2), .mov (.c (.lit (.bool false))), none⟩]) (
 .seq (
  .ops [⟨(some 3), .mov (.t 0), none⟩, ⟨(some 4), .bin .geq (.t 3) (.c (.lit (.int .u8 97))), none⟩, ⟨(some 5), .mov (.t 4), none⟩, ⟨(some 6), .mov (.t 0), (some (5, true))⟩, ⟨(some 7), .bin .leq (.t 6) (.c (.lit (.int .u8 122))), (some (5, true))⟩, ⟨(some 8), .pick (.t 5) (.t 7) (.c (.lit (.bool false))), none⟩, ⟨(some 9), .mov (.t 8), none⟩, ⟨(some 10), .mov (.t 0), (some (9, false))⟩, ⟨(some 11), .eq false .pint (.t 10) (.c (.lit (.int .u8 95))), (some (9, false))⟩, ⟨(some 12), .pick (.t 9) (.c (.lit (.bool true))) (.t 11), none⟩, ⟨(some 2), .mov (.t 12), none⟩]) (
 .ret)), false⟩

def L_ref03_name_1 (N : Nat → Nat) : AC :=
    .seq (
     .seq (
      .ops [⟨(some 18), .mov (.t 1), none⟩, ⟨(some 19), .mov (.t 5), none⟩, ⟨(some 20), .bin .add (.t 18) (.t 19), none⟩, ⟨(some 21), .mov (.t 0), none⟩, ⟨(some 22), .len (.t 21), none⟩, ⟨(some 23), .bin .lss (.t 20) (.t 22), none⟩, ⟨(some 24), .mov (.t 23), none⟩, ⟨(some 25), .mov (.t 0), (some (24, true))⟩, ⟨(some 26), .mov (.t 1), (some (24, true))⟩, ⟨(some 27), .mov (.t 5), (some (24, true))⟩, ⟨(some 28), .bin .add (.t 26) (.t 27), (some (24, true))⟩, ⟨(some 29), .iaddr 1 (.t 25) (.t 28), (some (24, true))⟩, ⟨(some 30), .load none (.t 29), (some (24, true))⟩, ⟨(some 31), .call (.c (.fn (f_ref03_low N) [] [])) [(.t 30)], (some (24, true))⟩, ⟨(some 32), .mov (.t 31), (some (24, true))⟩, ⟨(some 33), .mov (.t 0), (some (32, false))⟩, ⟨(some 34), .mov (.t 1), (some (32, false))⟩, ⟨(some 35), .mov (.t 5), (some (32, false))⟩, ⟨(some 36), .bin .add (.t 34) (.t 35), (some (32, false))⟩, ⟨(some 37), .iaddr 1 (.t 33) (.t 36), (some (32, false))⟩, ⟨(some 38), .load none (.t 37), (some (32, false))⟩, ⟨(some 39), .call (.c (.fn (f_ref03_digit N) [] [])) [(.t 38)], (some (32, false))⟩, ⟨(some 40), .pick (.t 32) (.c (.lit (.bool true))) (.t 39), (some (24, true))⟩, ⟨(some 41), .pick (.t 24) (.t 40) (.c (.lit (.bool false))), none⟩]) (
     .cond (.t 41) (
      .skip) (
      .exit 0))) (
    .block 1 (
     .ops [⟨(some 42), .mov (.t 5), none⟩, ⟨(some 43), .bin .add (.t 42) (.c (.lit (.int .i64 1))), none⟩, ⟨(some 5), .mov (.t 43), none⟩]))
def K_ref03_name_1 (N : Nat → Nat) : AC :=
 .seq (
  .ops [⟨(some 44), .mov (.t 5), none⟩, ⟨(some 4), .mov (.t 44), none⟩]) (
 .ret)
/-- azimuth/azimuthref03.name -/
def C_ref03_name (N : Nat → Nat) : AFunc := ⟨45, [.inl 4],
 .seq (
  .ops [⟨(some 4), .mov (.c (.lit (.int .i64 0))), none⟩]) (
 .seq (
  .seq (
   .ops [⟨(some 6), .mov (.t 1), none⟩, ⟨(some 7), .mov (.t 0), none⟩, ⟨(some 8), .len (.t 7), none⟩, ⟨(some 9), .bin .geq (.t 6) (.t 8), none⟩, ⟨(some 10), .mov (.t 9), none⟩, ⟨(some 11), .mov (.t 0), (some (10, false))⟩, ⟨(some 12), .mov (.t 1), (some (10, false))⟩, ⟨(some 13), .iaddr 1 (.t 11) (.t 12), (some (10, false))⟩, ⟨(some 14), .load none (.t 13), (some (10, false))⟩, ⟨(some 15), .call (.c (.fn (f_ref03_low N) [] [])) [(.t 14)], (some (10, false))⟩, ⟨(some 16), .un .not (.t 15), (some (10, false))⟩, ⟨(some 17), .pick (.t 10) (.c (.lit (.bool true))) (.t 16), none⟩]) (
  .cond (.t 17) (
   .seq (
    .ops [⟨(some 4), .mov (.c (.lit (.int .i64 0))), none⟩]) (
   .ret)) (
   .skip))) (
 .seq (
  .ops [⟨(some 5), .mov (.c (.lit (.int .i64 1))), none⟩]) (
 .seq (
  .block 0 (
   .loop (L_ref03_name_1 N))) (K_ref03_name_1 N)))), false⟩

def L_ref03_number_1 (N : Nat → Nat) : AC :=
    .seq (
     .seq (
      .ops [⟨(some 10), .mov (.t 1), none⟩, ⟨(some 11), .mov (.t 6), none⟩, ⟨(some 12), .bin .add (.t 10) (.t 11), none⟩, ⟨(some 13), .mov (.t 0), none⟩, ⟨(some 14), .len (.t 13), none⟩, ⟨(some 15), .bin .lss (.t 12) (.t 14), none⟩, ⟨(some 16), .mov (.t 15), none⟩, ⟨(some 17), .mov (.t 0), (some (16, true))⟩, ⟨(some 18), .mov (.t 1), (some (16, true))⟩, ⟨(some 19), .mov (.t 6), (some (16, true))⟩, ⟨(some 20), .bin .add (.t 18) (.t 19), (some (16, true))⟩, ⟨(some 21), .iaddr 1 (.t 17) (.t 20), (some (16, true))⟩, ⟨(some 22), .load none (.t 21), (some (16, true))⟩, ⟨(some 23), .call (.c (.fn (f_ref03_digit N) [] [])) [(.t 22)], (some (16, true))⟩, ⟨(some 24), .pick (.t 16) (.t 23) (.c (.lit (.bool false))), none⟩]) (
     .cond (.t 24) (
      .skip) (
      .exit 0))) (
    .block 1 (
     .seq (
      .ops [⟨(some 25), .mov (.t 0), none⟩, ⟨(some 26), .mov (.t 1), none⟩, ⟨(some 27), .mov (.t 6), none⟩, ⟨(some 28), .bin .add (.t 26) (.t 27), none⟩, ⟨(some 29), .iaddr 1 (.t 25) (.t 28), none⟩, ⟨(some 30), .load none (.t 29), none⟩, ⟨(some 31), .bin .sub (.t 30) (.c (.lit (.int .u8 48))), none⟩, ⟨(some 32), .conv (.toInt .u64) (.t 31), none⟩, ⟨(some 9), .mov (.t 32), none⟩]) (
     .seq (
      .seq (
       .ops [⟨(some 33), .mov (.t 7), none⟩, ⟨(some 34), .bin .gtr (.t 33) (.c (.lit (.int .u64 922337203685477580))), none⟩, ⟨(some 35), .mov (.t 34), none⟩, ⟨(some 36), .mov (.t 7), (some (35, false))⟩, ⟨(some 37), .eq false .pint (.t 36) (.c (.lit (.int .u64 922337203685477580))), (some (35, false))⟩, ⟨(some 38), .mov (.t 37), (some (35, false))⟩, ⟨(some 39), .mov (.t 9), (some (38, true))⟩, ⟨(some 40), .bin .gtr (.t 39) (.c (.lit (.int .u64 7))), (some (38, true))⟩, ⟨(some 41), .pick (.t 38) (.t 40) (.c (.lit (.bool false))), (some (35, false))⟩, ⟨(some 42), .pick (.t 35) (.c (.lit (.bool true))) (.t 41), none⟩]) (
      .cond (.t 42) (
       .ops [⟨(some 8), .mov (.c (.lit (.bool false))), none⟩]) (
       .skip))) (
     .seq (
      .seq (
       .ops [⟨(some 43), .mov (.t 8), none⟩]) (
      .cond (.t 43) (
       .ops [⟨(some 44), .mov (.t 7), none⟩, ⟨(some 45), .bin .mul (.t 44) (.c (.lit (.int .u64 10))), none⟩, ⟨(some 46), .mov (.t 9), none⟩, ⟨(some 47), .bin .add (.t 45) (.t 46), none⟩, ⟨(some 7), .mov (.t 47), none⟩]) (
       .skip))) (
     .ops [⟨(some 48), .mov (.t 6), none⟩, ⟨(some 49), .bin .add (.t 48) (.c (.lit (.int .i64 1))), none⟩, ⟨(some 6), .mov (.t 49), none⟩])))))
def K_ref03_number_1 (N : Nat → Nat) : AC :=
 .seq (
  .dops 11 [⟨(some 50), .mov (.t 6), none⟩, ⟨(some 51), .mov (.t 8), none⟩, ⟨(some 52), .mov (.t 51), none⟩, ⟨(some 53), .mov (.t 6), (some (52, true))⟩, ⟨(some 54), .eq false .pint (.t 53) (.c (.lit (.int .i64 1))), (some (52, true))⟩, ⟨(some 55), .mov (.t 54), (some (52, true))⟩, ⟨(some 56), .mov (.t 0), (some (55, false))⟩, ⟨(some 57), .mov (.t 1), (some (55, false))⟩, ⟨(some 58), .iaddr 1 (.t 56) (.t 57), (some (55, false))⟩, ⟨(some 59), .load none (.t 58), (some (55, false))⟩, ⟨(some 60), .eq true .pint (.t 59) (.c (.lit (.int .u8 48))), (some (55, false))⟩, ⟨(some 61), .pick (.t 55) (.c (.lit (.bool true))) (.t 60), (some (52, true))⟩, ⟨(some 62), .pick (.t 52) (.t 61) (.c (.lit (.bool false))), none⟩, ⟨(some 4), .mov (.t 50), none⟩, ⟨(some 5), .mov (.t 62), none⟩] [0, 0, 0, 0, 0, 0, 0, 0, 0, 0, 0, 0, 0, 0, 0] []) (
 .ret)
/-- azimuth/azimuthref03.number -/
def C_ref03_number (N : Nat → Nat) : AFunc := ⟨63, [.inl 4, .inl 5],
 .seq (
  .ops [⟨(some 4), .mov (.c (.lit (.int .i64 0))), none⟩, ⟨(some 5), .mov (.c (.lit (.bool false))), none⟩]) (
 .seq (
  .ops [⟨(some 6), .mov (.c (.lit (.int .i64 0))), none⟩]) (
 .seq (
  .ops [⟨(some 7), .mov (.c (.lit (.int .u64 0))), none⟩]) (
 .seq (
  .ops [⟨(some 8), .mov (.c (.lit (.bool true))), none⟩]) (
 .seq (
  .block 0 (
   .loop (L_ref03_number_1 N))) (K_ref03_number_1 N))))), false⟩

def L_ref03_one_1 (N : Nat → Nat) : AC :=
       .seq (
        .seq (
         .ops [⟨(some 45), .mov (.t 7), none⟩, ⟨(some 46), .bin .lss (.t 45) (.c (.lit (.int .i64 18))), none⟩]) (
        .cond (.t 46) (
         .skip) (
         .exit 1))) (
       .seq (
        .block 2 (
         .seq (
          .ops [⟨(some 49), .mov (.t 0), none⟩, ⟨(some 50), .mov (.t 1), none⟩, ⟨(some 51), .mov (.t 7), none⟩, ⟨(some 52), .bin .add (.t 50) (.t 51), none⟩, ⟨(some 53), .iaddr 1 (.t 49) (.t 52), none⟩, ⟨(some 54), .load none (.t 53), none⟩, ⟨(some 55), .call (.c (.fn (f_ref03_hex N) [] [])) [(.t 54)], none⟩, ⟨(some 56), .un .not (.t 55), none⟩]) (
         .cond (.t 56) (
          .seq (
           .ops [⟨(some 57), .build [(.lit (.int .i64 0)), (.lit (.string (mkS []))), (.lit (.int .i64 0))] [], none⟩, ⟨none, .store 3 (.t 4) (.t 57), none⟩, ⟨(some 5), .mov (.c (.lit (.int .i64 0))), none⟩]) (
          .ret)) (
          .skip)))) (
       .ops [⟨(some 47), .mov (.t 7), none⟩, ⟨(some 48), .bin .add (.t 47) (.c (.lit (.int .i64 1))), none⟩, ⟨(some 7), .mov (.t 48), none⟩]))
def K_ref03_one_1 (N : Nat → Nat) : AC :=
 .seq (
  .ops [⟨(some 58), .mov (.t 0), none⟩, ⟨(some 59), .mov (.t 1), none⟩, ⟨(some 60), .mov (.t 1), none⟩, ⟨(some 61), .bin .add (.t 60) (.c (.lit (.int .i64 18))), none⟩, ⟨(some 62), .slice 1 (.t 58) (some (.t 59)) (some (.t 61)), none⟩, ⟨(some 63), .conv .str (.t 62), none⟩, ⟨(some 64), .build [(.lit (.int .i64 0)), (.lit (.string (mkS []))), (.lit (.int .i64 0))] [(0, 1, (.c (.lit (.int .i64 5)))), (1, 1, (.t 63))], none⟩, ⟨none, .store 3 (.t 4) (.t 64), none⟩, ⟨(some 5), .mov (.c (.lit (.int .i64 18))), none⟩]) (
 .ret)
def L_ref03_one_2 (N : Nat → Nat) : AC :=
         .seq (
          .seq (
           .ops [⟨(some 89), .mov (.t 1), none⟩, ⟨(some 90), .mov (.t 10), none⟩, ⟨(some 91), .bin .add (.t 89) (.t 90), none⟩, ⟨(some 92), .mov (.t 0), none⟩, ⟨(some 93), .len (.t 92), none⟩, ⟨(some 94), .bin .lss (.t 91) (.t 93), none⟩, ⟨(some 95), .mov (.t 94), none⟩, ⟨(some 96), .mov (.t 0), (some (95, true))⟩, ⟨(some 97), .mov (.t 1), (some (95, true))⟩, ⟨(some 98), .mov (.t 10), (some (95, true))⟩, ⟨(some 99), .bin .add (.t 97) (.t 98), (some (95, true))⟩, ⟨(some 100), .iaddr 1 (.t 96) (.t 99), (some (95, true))⟩, ⟨(some 101), .load none (.t 100), (some (95, true))⟩, ⟨(some 102), .call (.c (.fn (f_ref03_high N) [] [])) [(.t 101)], (some (95, true))⟩, ⟨(some 103), .mov (.t 102), (some (95, true))⟩, ⟨(some 104), .mov (.t 0), (some (103, false))⟩, ⟨(some 105), .mov (.t 1), (some (103, false))⟩, ⟨(some 106), .mov (.t 10), (some (103, false))⟩, ⟨(some 107), .bin .add (.t 105) (.t 106), (some (103, false))⟩, ⟨(some 108), .iaddr 1 (.t 104) (.t 107), (some (103, false))⟩, ⟨(some 109), .load none (.t 108), (some (103, false))⟩, ⟨(some 110), .call (.c (.fn (f_ref03_digit N) [] [])) [(.t 109)], (some (103, false))⟩, ⟨(some 111), .pick (.t 103) (.c (.lit (.bool true))) (.t 110), (some (95, true))⟩, ⟨(some 112), .mov (.t 111), (some (95, true))⟩, ⟨(some 113), .mov (.t 0), (some (112, false))⟩, ⟨(some 114), .mov (.t 1), (some (112, false))⟩, ⟨(some 115), .mov (.t 10), (some (112, false))⟩, ⟨(some 116), .bin .add (.t 114) (.t 115), (some (112, false))⟩, ⟨(some 117), .iaddr 1 (.t 113) (.t 116), (some (112, false))⟩, ⟨(some 118), .load none (.t 117), (some (112, false))⟩, ⟨(some 119), .bin .geq (.t 118) (.c (.lit (.int .u8 97))), (some (112, false))⟩, ⟨(some 120), .mov (.t 119), (some (112, false))⟩, ⟨(some 121), .mov (.t 0), (some (120, true))⟩, ⟨(some 122), .mov (.t 1), (some (120, true))⟩, ⟨(some 123), .mov (.t 10), (some (120, true))⟩, ⟨(some 124), .bin .add (.t 122) (.t 123), (some (120, true))⟩, ⟨(some 125), .iaddr 1 (.t 121) (.t 124), (some (120, true))⟩, ⟨(some 126), .load none (.t 125), (some (120, true))⟩, ⟨(some 127), .bin .leq (.t 126) (.c (.lit (.int .u8 122))), (some (120, true))⟩, ⟨(some 128), .pick (.t 120) (.t 127) (.c (.lit (.bool false))), (some (112, false))⟩, ⟨(some 129), .pick (.t 112) (.c (.lit (.bool true))) (.t 128), (some (95, true))⟩, ⟨(some 130), .pick (.t 95) (.t 129) (.c (.lit (.bool false))), none⟩]) (
          .cond (.t 130) (
           .skip) (
           .exit 3))) (
         .block 4 (
          .ops [⟨(some 131), .mov (.t 10), none⟩, ⟨(some 132), .bin .add (.t 131) (.c (.lit (.int .i64 1))), none⟩, ⟨(some 10), .mov (.t 132), none⟩]))
def K_ref03_one_2 (N : Nat → Nat) : AC :=
 .seq (
  .ops [⟨(some 133), .mov (.t 0), none⟩, ⟨(some 134), .mov (.t 1), none⟩, ⟨(some 135), .mov (.t 1), none⟩, ⟨(some 136), .mov (.t 10), none⟩, ⟨(some 137), .bin .add (.t 135) (.t 136), none⟩, ⟨(some 138), .slice 1 (.t 133) (some (.t 134)) (some (.t 137)), none⟩, ⟨(some 139), .conv .str (.t 138), none⟩, ⟨(some 140), .build [(.lit (.int .i64 0)), (.lit (.string (mkS []))), (.lit (.int .i64 0))] [(0, 1, (.c (.lit (.int .i64 2)))), (1, 1, (.t 139))], none⟩, ⟨(some 141), .mov (.t 10), none⟩, ⟨none, .store 3 (.t 4) (.t 140), none⟩, ⟨(some 5), .mov (.t 141), none⟩]) (
 .ret)
def E_ref03_one_5 (N : Nat → Nat) : AC :=
        .seq (
         .ops [⟨(some 186), .mov (.t 6), none⟩, ⟨(some 187), .eq false .pint (.t 186) (.c (.lit (.int .u8 34))), none⟩, ⟨(some 185), .mov (.t 187), none⟩]) (
        .cond (.t 185) (
         .seq (
          .ops [⟨(some 189), .mov (.t 0), none⟩, ⟨(some 190), .mov (.t 1), none⟩, ⟨(some 191), .call (.c (.fn (f_ref03_str N) [] [])) [(.t 189), (.t 190)], none⟩, ⟨(some 188), .mov (.t 191), none⟩, ⟨(some 192), .extract (.t 188) 0, none⟩, ⟨(some 193), .extract (.t 188) 1, none⟩, ⟨(some 14), .mov (.t 192), none⟩, ⟨(some 15), .mov (.t 193), none⟩]) (
         .seq (
          .seq (
           .ops [⟨(some 194), .mov (.t 15), none⟩, ⟨(some 195), .eq false .pint (.t 194) (.c (.lit (.int .i64 0))), none⟩]) (
          .cond (.t 195) (
           .seq (
            .ops [⟨(some 196), .build [(.lit (.int .i64 0)), (.lit (.string (mkS []))), (.lit (.int .i64 0))] [], none⟩, ⟨none, .store 3 (.t 4) (.t 196), none⟩, ⟨(some 5), .mov (.c (.lit (.int .i64 0))), none⟩]) (
           .ret)) (
           .skip))) (
         .seq (
          .ops [⟨(some 197), .mov (.t 14), none⟩, ⟨(some 198), .build [(.lit (.int .i64 0)), (.lit (.string (mkS []))), (.lit (.int .i64 0))] [(0, 1, (.c (.lit (.int .i64 6)))), (1, 1, (.t 197))], none⟩, ⟨(some 199), .mov (.t 15), none⟩, ⟨none, .store 3 (.t 4) (.t 198), none⟩, ⟨(some 5), .mov (.t 199), none⟩]) (
         .ret)))) (
         .skip))
def E_ref03_one_4 (N : Nat → Nat) : AC :=
       .seq (
        .ops [⟨(some 164), .mov (.t 6), none⟩, ⟨(some 165), .eq false .pint (.t 164) (.c (.lit (.int .u8 35))), none⟩, ⟨(some 163), .mov (.t 165), none⟩]) (
       .cond (.t 163) (
        .seq (
         .ops [⟨(some 166), .mov (.t 0), none⟩, ⟨(some 167), .mov (.t 1), none⟩, ⟨(some 168), .bin .add (.t 167) (.c (.lit (.int .i64 1))), none⟩, ⟨(some 169), .call (.c (.fn (f_ref03_name N) [] [])) [(.t 166), (.t 168)], none⟩, ⟨(some 13), .mov (.t 169), none⟩]) (
        .seq (
         .seq (
          .ops [⟨(some 170), .mov (.t 13), none⟩, ⟨(some 171), .eq false .pint (.t 170) (.c (.lit (.int .i64 0))), none⟩]) (
         .cond (.t 171) (
          .seq (
           .ops [⟨(some 172), .build [(.lit (.int .i64 0)), (.lit (.string (mkS []))), (.lit (.int .i64 0))] [], none⟩, ⟨none, .store 3 (.t 4) (.t 172), none⟩, ⟨(some 5), .mov (.c (.lit (.int .i64 0))), none⟩]) (
          .ret)) (
          .skip))) (
        .seq (
         .ops [⟨(some 173), .mov (.t 0), none⟩, ⟨(some 174), .mov (.t 1), none⟩, ⟨(some 175), .bin .add (.t 174) (.c (.lit (.int .i64 1))), none⟩, ⟨(some 176), .mov (.t 1), none⟩, ⟨(some 177), .bin .add (.t 176) (.c (.lit (.int .i64 1))), none⟩, ⟨(some 178), .mov (.t 13), none⟩, ⟨(some 179), .bin .add (.t 177) (.t 178), none⟩, ⟨(some 180), .slice 1 (.t 173) (some (.t 175)) (some (.t 179)), none⟩, ⟨(some 181), .conv .str (.t 180), none⟩, ⟨(some 182), .build [(.lit (.int .i64 0)), (.lit (.string (mkS []))), (.lit (.int .i64 0))] [(0, 1, (.c (.lit (.int .i64 3)))), (1, 1, (.t 181))], none⟩, ⟨(some 183), .mov (.t 13), none⟩, ⟨(some 184), .bin .add (.t 183) (.c (.lit (.int .i64 1))), none⟩, ⟨none, .store 3 (.t 4) (.t 182), none⟩, ⟨(some 5), .mov (.t 184), none⟩]) (
        .ret)))) (E_ref03_one_5 N))
def E_ref03_one_3 (N : Nat → Nat) : AC :=
      .seq (
       .ops [⟨(some 143), .mov (.t 6), none⟩, ⟨(some 144), .call (.c (.fn (f_ref03_digit N) [] [])) [(.t 143)], none⟩, ⟨(some 142), .mov (.t 144), none⟩]) (
      .cond (.t 142) (
       .seq (
        .ops [⟨(some 146), .mov (.t 0), none⟩, ⟨(some 147), .mov (.t 1), none⟩, ⟨(some 148), .call (.c (.fn (f_ref03_number N) [] [])) [(.t 146), (.t 147)], none⟩, ⟨(some 145), .mov (.t 148), none⟩, ⟨(some 149), .extract (.t 145) 0, none⟩, ⟨(some 150), .extract (.t 145) 1, none⟩, ⟨(some 11), .mov (.t 149), none⟩, ⟨(some 12), .mov (.t 150), none⟩]) (
       .seq (
        .seq (
         .ops [⟨(some 151), .mov (.t 12), none⟩, ⟨(some 152), .un .not (.t 151), none⟩]) (
        .cond (.t 152) (
         .seq (
          .ops [⟨(some 153), .build [(.lit (.int .i64 0)), (.lit (.string (mkS []))), (.lit (.int .i64 0))] [], none⟩, ⟨none, .store 3 (.t 4) (.t 153), none⟩, ⟨(some 5), .mov (.c (.lit (.int .i64 0))), none⟩]) (
         .ret)) (
         .skip))) (
       .seq (
        .ops [⟨(some 154), .mov (.t 0), none⟩, ⟨(some 155), .mov (.t 1), none⟩, ⟨(some 156), .mov (.t 1), none⟩, ⟨(some 157), .mov (.t 11), none⟩, ⟨(some 158), .bin .add (.t 156) (.t 157), none⟩, ⟨(some 159), .slice 1 (.t 154) (some (.t 155)) (some (.t 158)), none⟩, ⟨(some 160), .conv .str (.t 159), none⟩, ⟨(some 161), .build [(.lit (.int .i64 0)), (.lit (.string (mkS []))), (.lit (.int .i64 0))] [(0, 1, (.c (.lit (.int .i64 4)))), (1, 1, (.t 160))], none⟩, ⟨(some 162), .mov (.t 11), none⟩, ⟨none, .store 3 (.t 4) (.t 161), none⟩, ⟨(some 5), .mov (.t 162), none⟩]) (
       .ret)))) (E_ref03_one_4 N))
def E_ref03_one_2 (N : Nat → Nat) : AC :=
     .seq (
      .ops [⟨(some 87), .mov (.t 6), none⟩, ⟨(some 88), .call (.c (.fn (f_ref03_high N) [] [])) [(.t 87)], none⟩, ⟨(some 86), .mov (.t 88), none⟩]) (
     .cond (.t 86) (
      .seq (
       .ops [⟨(some 10), .mov (.c (.lit (.int .i64 1))), none⟩]) (
      .seq (
       .block 3 (
        .loop (L_ref03_one_2 N))) (K_ref03_one_2 N))) (E_ref03_one_3 N))
def E_ref03_one_1 (N : Nat → Nat) : AC :=
    .seq (
     .ops [⟨(some 66), .mov (.t 6), none⟩, ⟨(some 67), .call (.c (.fn (f_ref03_low N) [] [])) [(.t 66)], none⟩, ⟨(some 65), .mov (.t 67), none⟩]) (
    .cond (.t 65) (
     .seq (
      .ops [⟨(some 68), .mov (.t 0), none⟩, ⟨(some 69), .mov (.t 1), none⟩, ⟨(some 70), .call (.c (.fn (f_ref03_name N) [] [])) [(.t 68), (.t 69)], none⟩, ⟨(some 8), .mov (.t 70), none⟩]) (
     .seq (
      .ops [⟨(some 71), .mov (.t 0), none⟩, ⟨(some 72), .mov (.t 1), none⟩, ⟨(some 73), .mov (.t 1), none⟩, ⟨(some 74), .mov (.t 8), none⟩, ⟨(some 75), .bin .add (.t 73) (.t 74), none⟩, ⟨(some 76), .slice 1 (.t 71) (some (.t 72)) (some (.t 75)), none⟩, ⟨(some 77), .conv .str (.t 76), none⟩, ⟨(some 9), .mov (.t 77), none⟩]) (
     .seq (
      .seq (
       .ops [⟨(some 78), .mov (.t 9), none⟩, ⟨(some 79), .call (.c (.fn (f_ref03_IsWord N) [] [])) [(.t 78)], none⟩]) (
      .cond (.t 79) (
       .seq (
        .ops [⟨(some 80), .mov (.t 9), none⟩, ⟨(some 81), .build [(.lit (.int .i64 0)), (.lit (.string (mkS []))), (.lit (.int .i64 0))] [(0, 1, (.c (.lit (.int .i64 7)))), (1, 1, (.t 80))], none⟩, ⟨(some 82), .mov (.t 8), none⟩, ⟨none, .store 3 (.t 4) (.t 81), none⟩, ⟨(some 5), .mov (.t 82), none⟩]) (
       .ret)) (
       .skip))) (
     .seq (
      .ops [⟨(some 83), .mov (.t 9), none⟩, ⟨(some 84), .build [(.lit (.int .i64 0)), (.lit (.string (mkS []))), (.lit (.int .i64 0))] [(0, 1, (.c (.lit (.int .i64 1)))), (1, 1, (.t 83))], none⟩, ⟨(some 85), .mov (.t 8), none⟩, ⟨none, .store 3 (.t 4) (.t 84), none⟩, ⟨(some 5), .mov (.t 85), none⟩]) (
     .ret))))) (E_ref03_one_2 N))
def K_ref03_one_3 (N : Nat → Nat) : AC :=
 .seq (
  .ops [⟨(some 200), .mov (.t 0), none⟩, ⟨(some 201), .mov (.t 1), none⟩, ⟨(some 202), .call (.c (.fn (f_ref03_sign N) [] [])) [(.t 200), (.t 201)], none⟩, ⟨(some 16), .mov (.t 202), none⟩]) (
 .seq (
  .seq (
   .ops [⟨(some 203), .mov (.t 16), none⟩, ⟨(some 204), .eq false .pint (.t 203) (.c (.lit (.int .i64 0))), none⟩]) (
  .cond (.t 204) (
   .seq (
    .ops [⟨(some 205), .build [(.lit (.int .i64 0)), (.lit (.string (mkS []))), (.lit (.int .i64 0))] [], none⟩, ⟨none, .store 3 (.t 4) (.t 205), none⟩, ⟨(some 5), .mov (.c (.lit (.int .i64 0))), none⟩]) (
   .ret)) (
   .skip))) (
 .seq (
  .ops [⟨(some 206), .mov (.t 0), none⟩, ⟨(some 207), .mov (.t 1), none⟩, ⟨(some 208), .mov (.t 1), none⟩, ⟨(some 209), .mov (.t 16), none⟩, ⟨(some 210), .bin .add (.t 208) (.t 209), none⟩, ⟨(some 211), .slice 1 (.t 206) (some (.t 207)) (some (.t 210)), none⟩, ⟨(some 212), .conv .str (.t 211), none⟩, ⟨(some 213), .build [(.lit (.int .i64 0)), (.lit (.string (mkS []))), (.lit (.int .i64 0))] [(0, 1, (.c (.lit (.int .i64 8)))), (1, 1, (.t 212))], none⟩, ⟨(some 214), .mov (.t 16), none⟩, ⟨none, .store 3 (.t 4) (.t 213), none⟩, ⟨(some 5), .mov (.t 214), none⟩]) (
 .ret)))
/-- azimuth/azimuthref03.one -/
def C_ref03_one (N : Nat → Nat) : AFunc := ⟨215, [.inr (4, (some 3)), .inl 5],
 .seq (
  .ops [⟨(some 4), .new (t_api_Token N) (.agg [(.lit (.int .i64 0)), (.lit (.string (mkS []))), (.lit (.int .i64 0))]), none⟩, ⟨(some 5), .mov (.c (.lit (.int .i64 0))), none⟩]) (
 .seq (
  .ops [⟨(some 17), .mov (.t 0), none⟩, ⟨(some 18), .mov (.t 1), none⟩, ⟨(some 19), .iaddr 1 (.t 17) (.t 18), none⟩, ⟨(some 20), .load none (.t 19), none⟩, ⟨(some 6), .mov (.t 20), none⟩]) (
 .seq (
  .block 0 (
   .seq (
    .ops [⟨(some 22), .mov (.t 6), none⟩, ⟨(some 23), .eq false .pint (.t 22) (.c (.lit (.int .u8 102))), none⟩, ⟨(some 24), .mov (.t 23), none⟩, ⟨(some 25), .mov (.t 1), (some (24, true))⟩, ⟨(some 26), .bin .add (.t 25) (.c (.lit (.int .i64 1))), (some (24, true))⟩, ⟨(some 27), .mov (.t 0), (some (24, true))⟩, ⟨(some 28), .len (.t 27), (some (24, true))⟩, ⟨(some 29), .bin .lss (.t 26) (.t 28), (some (24, true))⟩, ⟨(some 30), .pick (.t 24) (.t 29) (.c (.lit (.bool false))), none⟩, ⟨(some 31), .mov (.t 30), none⟩, ⟨(some 32), .mov (.t 0), (some (31, true))⟩, ⟨(some 33), .mov (.t 1), (some (31, true))⟩, ⟨(some 34), .bin .add (.t 33) (.c (.lit (.int .i64 1))), (some (31, true))⟩, ⟨(some 35), .iaddr 1 (.t 32) (.t 34), (some (31, true))⟩, ⟨(some 36), .load none (.t 35), (some (31, true))⟩, ⟨(some 37), .eq false .pint (.t 36) (.c (.lit (.int .u8 39))), (some (31, true))⟩, ⟨(some 38), .pick (.t 31) (.t 37) (.c (.lit (.bool false))), none⟩, ⟨(some 21), .mov (.t 38), none⟩]) (
   .cond (.t 21) (
    .seq (
     .seq (
      .ops [⟨(some 39), .mov (.t 1), none⟩, ⟨(some 40), .bin .add (.t 39) (.c (.lit (.int .i64 18))), none⟩, ⟨(some 41), .mov (.t 0), none⟩, ⟨(some 42), .len (.t 41), none⟩, ⟨(some 43), .bin .gtr (.t 40) (.t 42), none⟩]) (
     .cond (.t 43) (
      .seq (
       .ops [⟨(some 44), .build [(.lit (.int .i64 0)), (.lit (.string (mkS []))), (.lit (.int .i64 0))] [], none⟩, ⟨none, .store 3 (.t 4) (.t 44), none⟩, ⟨(some 5), .mov (.c (.lit (.int .i64 0))), none⟩]) (
      .ret)) (
      .skip))) (
    .seq (
     .seq (
      .ops [⟨(some 7), .mov (.c (.lit (.int .i64 2))), none⟩]) (
     .block 1 (
      .loop (L_ref03_one_1 N)))) (K_ref03_one_1 N))) (E_ref03_one_1 N)))) (K_ref03_one_3 N))), false⟩

/-- azimuth/azimuthref03.sign -/
def C_ref03_sign (N : Nat → Nat) : AFunc := ⟨49, [.inl 4],
 .seq (
  .ops [⟨(some 4), .mov (.c (.lit (.int .i64 0))), none⟩]) (
 .seq (
  .seq (
   .ops [⟨(some 5), .mov (.t 1), none⟩, ⟨(some 6), .bin .add (.t 5) (.c (.lit (.int .i64 2))), none⟩, ⟨(some 7), .mov (.t 0), none⟩, ⟨(some 8), .len (.t 7), none⟩, ⟨(some 9), .bin .leq (.t 6) (.t 8), none⟩]) (
  .cond (.t 9) (
   .seq (
    .ops [⟨(some 10), .mov (.t 0), none⟩, ⟨(some 11), .mov (.t 1), none⟩, ⟨(some 12), .mov (.t 1), none⟩, ⟨(some 13), .bin .add (.t 12) (.c (.lit (.int .i64 2))), none⟩, ⟨(some 14), .slice 1 (.t 10) (some (.t 11)) (some (.t 13)), none⟩, ⟨(some 15), .conv .str (.t 14), none⟩]) (
   .block 0 (
    .seq (
     .seq (
      .ops [⟨(some 17), .eq false .pstr (.t 15) (.c (.lit (.string (mkS [61, 62])))), none⟩, ⟨(some 16), .mov (.t 17), none⟩]) (
     .cond (.t 16) (
      .skip) (
      .seq (
       .ops [⟨(some 18), .eq false .pstr (.t 15) (.c (.lit (.string (mkS [45, 62])))), none⟩, ⟨(some 16), .mov (.t 18), none⟩]) (
      .cond (.t 16) (
       .skip) (
       .seq (
        .ops [⟨(some 19), .eq false .pstr (.t 15) (.c (.lit (.string (mkS [61, 61])))), none⟩, ⟨(some 16), .mov (.t 19), none⟩]) (
       .cond (.t 16) (
        .skip) (
        .seq (
         .ops [⟨(some 20), .eq false .pstr (.t 15) (.c (.lit (.string (mkS [46, 46])))), none⟩, ⟨(some 16), .mov (.t 20), none⟩]) (
        .cond (.t 16) (
         .skip) (
         .seq (
          .ops [⟨(some 21), .eq false .pstr (.t 15) (.c (.lit (.string (mkS [43, 46])))), none⟩, ⟨(some 16), .mov (.t 21), none⟩]) (
         .cond (.t 16) (
          .skip) (
          .seq (
           .ops [⟨(some 22), .eq false .pstr (.t 15) (.c (.lit (.string (mkS [45, 46])))), none⟩, ⟨(some 16), .mov (.t 22), none⟩]) (
          .cond (.t 16) (
           .skip) (
           .seq (
            .ops [⟨(some 23), .eq false .pstr (.t 15) (.c (.lit (.string (mkS [42, 46])))), none⟩, ⟨(some 16), .mov (.t 23), none⟩]) (
           .cond (.t 16) (
            .skip) (
            .seq (
             .ops [⟨(some 24), .eq false .pstr (.t 15) (.c (.lit (.string (mkS [47, 46])))), none⟩, ⟨(some 16), .mov (.t 24), none⟩]) (
            .cond (.t 16) (
             .skip) (
             .ops [⟨(some 25), .eq false .pstr (.t 15) (.c (.lit (.string (mkS [60, 46])))), none⟩, ⟨(some 16), .mov (.t 25), none⟩]))))))))))))))))) (
    .cond (.t 16) (
     .seq (
      .ops [⟨(some 4), .mov (.c (.lit (.int .i64 2))), none⟩]) (
     .ret)) (
     .skip))))) (
   .skip))) (
 .seq (
  .seq (
   .ops [⟨(some 26), .mov (.t 0), none⟩, ⟨(some 27), .mov (.t 1), none⟩, ⟨(some 28), .iaddr 1 (.t 26) (.t 27), none⟩, ⟨(some 29), .load none (.t 28), none⟩]) (
  .block 1 (
   .seq (
    .seq (
     .ops [⟨(some 31), .eq false .pint (.t 29) (.c (.lit (.int .u8 40))), none⟩, ⟨(some 30), .mov (.t 31), none⟩]) (
    .cond (.t 30) (
     .skip) (
     .seq (
      .ops [⟨(some 32), .eq false .pint (.t 29) (.c (.lit (.int .u8 41))), none⟩, ⟨(some 30), .mov (.t 32), none⟩]) (
     .cond (.t 30) (
      .skip) (
      .seq (
       .ops [⟨(some 33), .eq false .pint (.t 29) (.c (.lit (.int .u8 123))), none⟩, ⟨(some 30), .mov (.t 33), none⟩]) (
      .cond (.t 30) (
       .skip) (
       .seq (
        .ops [⟨(some 34), .eq false .pint (.t 29) (.c (.lit (.int .u8 125))), none⟩, ⟨(some 30), .mov (.t 34), none⟩]) (
       .cond (.t 30) (
        .skip) (
        .seq (
         .ops [⟨(some 35), .eq false .pint (.t 29) (.c (.lit (.int .u8 91))), none⟩, ⟨(some 30), .mov (.t 35), none⟩]) (
        .cond (.t 30) (
         .skip) (
         .seq (
          .ops [⟨(some 36), .eq false .pint (.t 29) (.c (.lit (.int .u8 93))), none⟩, ⟨(some 30), .mov (.t 36), none⟩]) (
         .cond (.t 30) (
          .skip) (
          .seq (
           .ops [⟨(some 37), .eq false .pint (.t 29) (.c (.lit (.int .u8 44))), none⟩, ⟨(some 30), .mov (.t 37), none⟩]) (
          .cond (.t 30) (
           .skip) (
           .seq (
            .ops [⟨(some 38), .eq false .pint (.t 29) (.c (.lit (.int .u8 59))), none⟩, ⟨(some 30), .mov (.t 38), none⟩]) (
           .cond (.t 30) (
            .skip) (
            .seq (
             .ops [⟨(some 39), .eq false .pint (.t 29) (.c (.lit (.int .u8 58))), none⟩, ⟨(some 30), .mov (.t 39), none⟩]) (
            .cond (.t 30) (
             .skip) (
             .seq (
              .ops [⟨(some 40), .eq false .pint (.t 29) (.c (.lit (.int .u8 46))), none⟩, ⟨(some 30), .mov (.t 40), none⟩]) (
             .cond (.t 30) (
              .skip) (
              .seq (
               .ops [⟨(some 41), .eq false .pint (.t 29) (.c (.lit (.int .u8 61))), none⟩, ⟨(some 30), .mov (.t 41), none⟩]) (
              .cond (.t 30) (
               .skip) (
               .seq (
                .ops [⟨(some 42), .eq false .pint (.t 29) (.c (.lit (.int .u8 124))), none⟩, ⟨(some 30), .mov (.t 42), none⟩]) (
               .cond (.t 30) (
                .skip) (
                .seq (
                 .ops [⟨(some 43), .eq false .pint (.t 29) (.c (.lit (.int .u8 43))), none⟩, ⟨(some 30), .mov (.t 43), none⟩]) (
                .cond (.t 30) (
                 .skip) (
                 .seq (
                  .ops [⟨(some 44), .eq false .pint (.t 29) (.c (.lit (.int .u8 45))), none⟩, ⟨(some 30), .mov (.t 44), none⟩]) (
                 .cond (.t 30) (
                  .skip) (
                  .seq (
                   .ops [⟨(some 45), .eq false .pint (.t 29) (.c (.lit (.int .u8 42))), none⟩, ⟨(some 30), .mov (.t 45), none⟩]) (
                  .cond (.t 30) (
                   .skip) (
                   .seq (
                    .ops [⟨(some 46), .eq false .pint (.t 29) (.c (.lit (.int .u8 47))), none⟩, ⟨(some 30), .mov (.t 46), none⟩]) (
                   .cond (.t 30) (
                    .skip) (
                    .seq (
                     .ops [⟨(some 47), .eq false .pint (.t 29) (.c (.lit (.int .u8 60))), none⟩, ⟨(some 30), .mov (.t 47), none⟩]) (
                    .cond (.t 30) (
                     .skip) (
                     .ops [⟨(some 48), .eq false .pint (.t 29) (.c (.lit (.int .u8 94))), none⟩, ⟨(some 30), .mov (.t 48), none⟩]))))))))))))))))))))))))))))))))))) (
   .cond (.t 30) (
    .seq (
     .ops [⟨(some 4), .mov (.c (.lit (.int .i64 1))), none⟩]) (
    .ret)) (
    .skip))))) (
 .seq (
  .ops [⟨(some 4), .mov (.c (.lit (.int .i64 0))), none⟩]) (
 .ret)))), false⟩

def L_ref03_str_1 (N : Nat → Nat) : AC :=
    .seq (
     .seq (
      .ops [⟨(some 10), .mov (.t 7), none⟩, ⟨(some 11), .mov (.t 0), none⟩, ⟨(some 12), .len (.t 11), none⟩, ⟨(some 13), .bin .lss (.t 10) (.t 12), none⟩]) (
     .cond (.t 13) (
      .skip) (
      .exit 0))) (
    .block 1 (
     .block 2 (
      .seq (
       .ops [⟨(some 25), .mov (.t 0), none⟩, ⟨(some 26), .mov (.t 7), none⟩, ⟨(some 27), .iaddr 1 (.t 25) (.t 26), none⟩, ⟨(some 28), .load none (.t 27), none⟩, ⟨(some 29), .eq false .pint (.t 28) (.c (.lit (.int .u8 34))), none⟩, ⟨(some 24), .mov (.t 29), none⟩]) (
      .cond (.t 24) (
       .seq (
        .ops [⟨(some 30), .mov (.t 6), none⟩, ⟨(some 31), .mov (.t 7), none⟩, ⟨(some 32), .bin .add (.t 31) (.c (.lit (.int .i64 1))), none⟩, ⟨(some 33), .mov (.t 1), none⟩, ⟨(some 34), .bin .sub (.t 32) (.t 33), none⟩, ⟨(some 4), .mov (.t 30), none⟩, ⟨(some 5), .mov (.t 34), none⟩]) (
       .ret)) (
       .seq (
        .ops [⟨(some 36), .mov (.t 0), none⟩, ⟨(some 37), .mov (.t 7), none⟩, ⟨(some 38), .iaddr 1 (.t 36) (.t 37), none⟩, ⟨(some 39), .load none (.t 38), none⟩, ⟨(some 40), .bin .lss (.t 39) (.c (.lit (.int .u8 32))), none⟩, ⟨(some 35), .mov (.t 40), none⟩]) (
       .cond (.t 35) (
        .seq (
         .ops [⟨(some 4), .mov (.c (.lit (.string (mkS [])))), none⟩, ⟨(some 5), .mov (.c (.lit (.int .i64 0))), none⟩]) (
        .ret)) (
        .seq (
         .ops [⟨(some 42), .mov (.t 0), none⟩, ⟨(some 43), .mov (.t 7), none⟩, ⟨(some 44), .iaddr 1 (.t 42) (.t 43), none⟩, ⟨(some 45), .load none (.t 44), none⟩, ⟨(some 46), .eq false .pint (.t 45) (.c (.lit (.int .u8 92))), none⟩, ⟨(some 41), .mov (.t 46), none⟩]) (
        .cond (.t 41) (
         .seq (
          .seq (
           .ops [⟨(some 47), .mov (.t 7), none⟩, ⟨(some 48), .bin .add (.t 47) (.c (.lit (.int .i64 1))), none⟩, ⟨(some 49), .mov (.t 0), none⟩, ⟨(some 50), .len (.t 49), none⟩, ⟨(some 51), .bin .geq (.t 48) (.t 50), none⟩]) (
          .cond (.t 51) (
           .seq (
            .ops [⟨(some 4), .mov (.c (.lit (.string (mkS [])))), none⟩, ⟨(some 5), .mov (.c (.lit (.int .i64 0))), none⟩]) (
           .ret)) (
           .skip))) (
         .seq (
          .seq (
           .ops [⟨(some 52), .mov (.t 0), none⟩, ⟨(some 53), .mov (.t 7), none⟩, ⟨(some 54), .bin .add (.t 53) (.c (.lit (.int .i64 1))), none⟩, ⟨(some 55), .iaddr 1 (.t 52) (.t 54), none⟩, ⟨(some 56), .load none (.t 55), none⟩]) (
          .block 3 (
           .seq (
            .ops [⟨(some 58), .eq false .pint (.t 56) (.c (.lit (.int .u8 34))), none⟩, ⟨(some 57), .mov (.t 58), none⟩]) (
           .cond (.t 57) (
            .ops [⟨(some 59), .mov (.t 6), none⟩, ⟨(some 60), .bslice (t_uint8 N) 1 none 1 [(.lit (.int .u8 0))] [(0, 1, (.c (.lit (.int .u8 34))))], none⟩, ⟨(some 61), .conv .str (.t 60), none⟩, ⟨(some 62), .bin .add (.t 59) (.t 61), none⟩, ⟨(some 6), .mov (.t 62), none⟩]) (
            .seq (
             .ops [⟨(some 64), .eq false .pint (.t 56) (.c (.lit (.int .u8 92))), none⟩, ⟨(some 63), .mov (.t 64), none⟩]) (
            .cond (.t 63) (
             .ops [⟨(some 65), .mov (.t 6), none⟩, ⟨(some 66), .bslice (t_uint8 N) 1 none 1 [(.lit (.int .u8 0))] [(0, 1, (.c (.lit (.int .u8 92))))], none⟩, ⟨(some 67), .conv .str (.t 66), none⟩, ⟨(some 68), .bin .add (.t 65) (.t 67), none⟩, ⟨(some 6), .mov (.t 68), none⟩]) (
             .seq (
              .ops [⟨(some 70), .eq false .pint (.t 56) (.c (.lit (.int .u8 110))), none⟩, ⟨(some 69), .mov (.t 70), none⟩]) (
             .cond (.t 69) (
              .ops [⟨(some 71), .mov (.t 6), none⟩, ⟨(some 72), .bslice (t_uint8 N) 1 none 1 [(.lit (.int .u8 0))] [(0, 1, (.c (.lit (.int .u8 10))))], none⟩, ⟨(some 73), .conv .str (.t 72), none⟩, ⟨(some 74), .bin .add (.t 71) (.t 73), none⟩, ⟨(some 6), .mov (.t 74), none⟩]) (
              .seq (
               .ops [⟨(some 4), .mov (.c (.lit (.string (mkS [])))), none⟩, ⟨(some 5), .mov (.c (.lit (.int .i64 0))), none⟩]) (
              .ret)))))))))) (
         .ops [⟨(some 75), .mov (.t 7), none⟩, ⟨(some 76), .bin .add (.t 75) (.c (.lit (.int .i64 2))), none⟩, ⟨(some 7), .mov (.t 76), none⟩]))) (
         .seq (
          .ops [⟨(some 14), .mov (.t 6), none⟩, ⟨(some 15), .mov (.t 0), none⟩, ⟨(some 16), .mov (.t 7), none⟩, ⟨(some 17), .mov (.t 7), none⟩, ⟨(some 18), .bin .add (.t 17) (.c (.lit (.int .i64 1))), none⟩, ⟨(some 19), .slice 1 (.t 15) (some (.t 16)) (some (.t 18)), none⟩, ⟨(some 20), .conv .str (.t 19), none⟩, ⟨(some 21), .bin .add (.t 14) (.t 20), none⟩, ⟨(some 6), .mov (.t 21), none⟩]) (
         .ops [⟨(some 22), .mov (.t 7), none⟩, ⟨(some 23), .bin .add (.t 22) (.c (.lit (.int .i64 1))), none⟩, ⟨(some 7), .mov (.t 23), none⟩]))))))))))
def K_ref03_str_1 (N : Nat → Nat) : AC :=
 .seq (
  .ops [⟨(some 4), .mov (.c (.lit (.string (mkS [])))), none⟩, ⟨(some 5), .mov (.c (.lit (.int .i64 0))), none⟩]) (
 .ret)
/-- azimuth/azimuthref03.str -/
def C_ref03_str (N : Nat → Nat) : AFunc := ⟨77, [.inl 4, .inl 5],
 .seq (
  .ops [⟨(some 4), .mov (.c (.lit (.string (mkS [])))), none⟩, ⟨(some 5), .mov (.c (.lit (.int .i64 0))), none⟩]) (
 .seq (
  .ops [⟨(some 6), .mov (.c (.lit (.string (mkS [])))), none⟩]) (
 .seq (
  .ops [⟨(some 8), .mov (.t 1), none⟩, ⟨(some 9), .bin .add (.t 8) (.c (.lit (.int .i64 1))), none⟩, ⟨(some 7), .mov (.t 9), none⟩]) (
 .seq (
  .block 0 (
   .loop (L_ref03_str_1 N))) (K_ref03_str_1 N)))), false⟩
end Go.Proofs.Eng
/- Floats' texts, strings' texts, blanks, run by the engine. -/
set_option linter.unusedVariables false
set_option linter.unusedSimpArgs false
set_option maxRecDepth 100000
namespace Go.Proofs.Eng
open Go
section
variable {Γ : Sums} {A : Tab} {N : Nat → Nat}

/-- What the library's functions are that the lexer calls. -/
structure LexT (Γ : Sums) (A : Tab) (N : Nat → Nat) : Prop where
  strs : Strs Γ A N
  cut : Has Γ A (f_strings_CutPrefix N) (C_strings_CutPrefix N)
  cut' : Has Γ A (f_internal_stringslite_CutPrefix N) (C_internal_stringslite_CutPrefix N)
  idx : Has Γ A (f_strings_IndexByte N) (C_strings_IndexByte N)
  idx' : Has Γ A (f_internal_stringslite_IndexByte N) (C_internal_stringslite_IndexByte N)
  idxS : ∀ s c H, (lim Γ A).call (f_internal_bytealg_IndexByteString N) [avStr s, avByte c] H = some (avInt .i64 (idxOf (mkS s) c.toNat), none)
  bits : ∀ n H, (lim Γ A).call (f_math_Float64frombits N) [avInt .u64 n] H = some (.lit (.float .f64 n.toNat), none)
  of : Has Γ A (f_floats_Of N) (C_floats_Of N)
  parse : Has Γ A (f_floats_Parse N) (C_floats_Parse N)
  float : Has Γ A (f_lexer_float N) (C_lexer_float N)
  text : Has Γ A (f_lexer_text N) (C_lexer_text N)
  blank : Has Γ A (f_lexer_blank N) (C_lexer_blank N)

theorem IndexByte_call (h : LexT Γ A N) (s : List UInt8) (c : UInt8) (H : Hp) : (lim Γ A).call (f_strings_IndexByte N) [avStr s, avByte c] H = some (avInt .i64 (idxOf (mkS s) c.toNat), none) := by
  have e : ∀ H, (lim Γ A).call (f_internal_stringslite_IndexByte N) [avStr s, avByte c] H = some (avInt .i64 (idxOf (mkS s) c.toNat), none) := by
    intro H
    apply h.idx'.call (by rfl)
    simp [C_internal_stringslite_IndexByte, h.idxS]
  apply h.idx.call (by rfl)
  simp [C_strings_IndexByte, e]
theorem CutPrefix_call (h : LexT Γ A N) (s t : List UInt8) (H : Hp) : (lim Γ A).call (f_strings_CutPrefix N) [avStr s, avStr t] H = some (if t.isPrefixOf s = true then .tup [avStr (s.drop t.length), avBool true] else .tup [avStr s, avBool false], none) := by
  have e : ∀ H, (lim Γ A).call (f_internal_stringslite_CutPrefix N) [avStr s, avStr t] H = some (if t.isPrefixOf s = true then .tup [avStr (s.drop t.length), avBool true] else .tup [avStr s, avBool false], none) := by
    intro H
    apply h.cut'.call (by rfl)
    cases hp : t.isPrefixOf s
    · simp [C_internal_stringslite_CutPrefix, slite_HasPrefix_call h.strs.has', hp]
    · have hl : t.length ≤ s.length := (List.isPrefixOf_iff_prefix.1 hp).length_le
      have e := aslstr_from (k := .i64) (s := s) (i := (t.length : Int)) (by omega) (by simpa using hl)
      simp only [Int.toNat_natCast] at e
      simp [C_internal_stringslite_CutPrefix, slite_HasPrefix_call h.strs.has', hp, e]
  apply h.cut.call (by rfl)
  cases hp : t.isPrefixOf s
  · rw [hp] at e
    simp only [Bool.false_eq_true, if_false] at e
    simp [C_strings_CutPrefix, e, hp]
  · rw [hp] at e
    simp only [if_true] at e
    simp [C_strings_CutPrefix, e, hp]

def isHex (c : UInt8) : Bool := isDigit c || (decide (97 ≤ c.toNat) && decide (c.toNat ≤ 102))
theorem idx_hex (c : UInt8) : decide (0 ≤ idxOf (mkS [48, 49, 50, 51, 52, 53, 54, 55, 56, 57, 97, 98, 99, 100, 101, 102]) c.toNat) = isHex c := by
  have := all256 (p := fun c => decide (decide (0 ≤ idxOf (mkS [48, 49, 50, 51, 52, 53, 54, 55, 56, 57, 97, 98, 99, 100, 101, 102]) c.toNat) = isHex c)) (by decide +kernel) c
  simpa only [decide_eq_true_eq] using this
theorem idx_blank (c : UInt8) : decide (0 ≤ idxOf (mkS [32, 9, 10, 13]) c.toNat) = isBlank c := by
  have := all256 (p := fun c => decide (decide (0 ≤ idxOf (mkS [32, 9, 10, 13]) c.toNat) = isBlank c)) (by decide +kernel) c
  simpa only [decide_eq_true_eq] using this
/-- What a sign behind a stroke stands for. -/
def escB (c : UInt8) : Option UInt8 := if c.toNat = 34 then some 34 else if c.toNat = 92 then some 92 else if c.toNat = 110 then some 10 else none
theorem idx_esc (c : UInt8) : match escB c with
    | none => idxOf (mkS [34, 92, 110]) c.toNat < 0
    | some d => 0 ≤ idxOf (mkS [34, 92, 110]) c.toNat ∧ asidx (avStr [34, 92, 10]) (avInt .i64 (idxOf (mkS [34, 92, 110]) c.toNat)) = some (avByte d) := by
  have h : ∀ c : UInt8, escB c = none ∧ idxOf (mkS [34, 92, 110]) c.toNat = -1 ∨ escB c = some 34 ∧ idxOf (mkS [34, 92, 110]) c.toNat = 0 ∨ escB c = some 92 ∧ idxOf (mkS [34, 92, 110]) c.toNat = 1 ∨ escB c = some 10 ∧ idxOf (mkS [34, 92, 110]) c.toNat = 2 := by
    intro c
    have := all256 (p := fun c => decide (escB c = none ∧ idxOf (mkS [34, 92, 110]) c.toNat = -1 ∨ escB c = some 34 ∧ idxOf (mkS [34, 92, 110]) c.toNat = 0 ∨ escB c = some 92 ∧ idxOf (mkS [34, 92, 110]) c.toNat = 1 ∨ escB c = some 10 ∧ idxOf (mkS [34, 92, 110]) c.toNat = 2)) (by decide +kernel) c
    simpa only [decide_eq_true_eq] using this
  rcases h c with ⟨e, i⟩ | ⟨e, i⟩ | ⟨e, i⟩ | ⟨e, i⟩ <;> rw [e, i]
  · decide
  · exact ⟨by decide, rfl⟩
  · exact ⟨by decide, rfl⟩
  · exact ⟨by decide, rfl⟩

theorem floats_Of_call (h : LexT Γ A N) (n : Int) (H : Hp) : ∃ m : Int, (lim Γ A).call (f_floats_Of N) [avInt .u64 n] H = some (avInt .u64 m, none) := by
  obtain ⟨R, hR⟩ : ∃ R : AV × Option Hp → Prop, R = fun r => ∃ m : Int, r = (avInt .u64 m, none) := ⟨_, rfl⟩
  have key : ∃ r, (lim Γ A).call (f_floats_Of N) [avInt .u64 n] H = some r ∧ R r := by
    apply h.of.callP (by rfl)
    simp [C_floats_Of, h.bits]
    have e : aeq .pfloat (.lit (.float .f64 n.toNat)) (.lit (.float .f64 n.toNat)) = some (Op.floatEq .f64 n.toNat n.toNat) := by simp [aeq, aprim, eqFl]
    rw [e, bindO_some]
    cases Op.floatEq .f64 n.toNat n.toNat
    · simp; rw [hR]; exact ⟨_, rfl⟩
    · simp; rw [hR]; exact ⟨_, rfl⟩
  obtain ⟨r, e, hr⟩ := key
  rw [hR] at hr
  obtain ⟨m, rfl⟩ := hr
  exact ⟨m, e⟩

def parseOk (s : List UInt8) : Bool := [102, 39].isPrefixOf s && decide (s.length = 18) && (s.drop 2).all isHex
theorem floats_Parse_call (h : LexT Γ A N) (s : List UInt8) (hs : s.length < 2 ^ 40) (H : Hp) :
    ∃ m : Int, (lim Γ A).call (f_floats_Parse N) [avStr s] H = some (.tup [avInt .u64 m, avInt .i64 (if parseOk s = true then 0 else 14)], none) := by
  obtain ⟨R, hR⟩ : ∃ R : AV × Option Hp → Prop, R = fun r => ∃ m : Int, r = (.tup [avInt .u64 m, avInt .i64 (if parseOk s = true then 0 else 14)], none) := ⟨_, rfl⟩
  have key : ∃ r, (lim Γ A).call (f_floats_Parse N) [avStr s] H = some r ∧ R r := by
    apply h.parse.callP (by rfl)
    have hcut := CutPrefix_call h s [102, 39]
    cases hp : [102, 39].isPrefixOf s
    · rw [hp] at hcut
      simp only [Bool.false_eq_true, if_false] at hcut
      simp [C_floats_Parse, hcut]
      rw [hR]
      exact ⟨0, by simp [parseOk, hp]⟩
    · rw [hp] at hcut
      simp only [if_true, List.length_cons, List.length_nil] at hcut
      have h2 : 2 ≤ s.length := by simpa using (List.isPrefixOf_iff_prefix.1 hp).length_le
      have hdl : (s.drop 2).length = s.length - 2 := by simp
      by_cases hl : s.length = 18
      · have hdl' : (s.drop 2).length = 16 := by omega
        have hdl2 : ((s.drop 2).length : Int) = 16 := by omega
        generalize hr : s.drop 2 = r at *
        simp [C_floats_Parse, hcut, hr, hdl', hdl2]
        refine wp_round (fun k ρ H' => H' = { l := H.l, d := none } ∧ ∃ (i : Nat) (m : Int), ρ 0 = avStr r ∧ ρ 5 = avInt .u64 m ∧ ρ 21 = avInt .i64 16 ∧ ρ 22 = avInt .i64 i ∧ i ≤ 16 ∧ (r.take i).all isHex = true ∧ k = 16 - i) (n := 16)
          ⟨rfl, 0, 0, rfl, rfl, by simp, rfl, by omega, by simp, rfl⟩ ?_
        rintro k ρ H' ⟨rfl, i, m, h0, h5, h21, h22, hi, ha, rfl⟩
        by_cases hlt : i < 16
        · have hlt' : (i : Int) < 16 := by omega
          have hlr : i < r.length := by omega
          have hx := asidx_nat (k := .i64) hlr
          have hix := idx_hex r[i]
          have hib := fun s c => IndexByte_call h s c
          cases hc : isHex r[i]
          · rw [hc, decide_eq_false_iff_not] at hix
            have hix' : idxOf (mkS [48, 49, 50, 51, 52, 53, 54, 55, 56, 57, 97, 98, 99, 100, 101, 102]) r[i].toNat < 0 := by omega
            simp [L_floats_Parse_1, h0, h5, h21, h22, hlt', hx, hib, hix']
            rw [hR]
            refine ⟨0, ?_⟩
            have : r.all isHex = false := by
              rw [Bool.eq_false_iff]
              intro hA
              rw [List.all_eq_true] at hA
              rw [hA _ (List.getElem_mem hlr)] at hc
              simp at hc
            simp [parseOk, hp, hl, hr, this]
          · rw [hc, decide_eq_true_eq] at hix
            have hix' : ¬ idxOf (mkS [48, 49, 50, 51, 52, 53, 54, 55, 56, 57, 97, 98, 99, 100, 101, 102]) r[i].toNat < 0 := by omega
            have hw : IntKind.wrap .i64 ((i : Int) + 1) = ((i + 1 : Nat) : Int) := by rw [wrap64 (by omega) (by omega)]; omega
            simp [L_floats_Parse_1, h0, h5, h21, h22, hlt', hx, hib, hix', hw, -Int.natCast_add]
            refine ⟨_, ?_, i + 1, rfl, by omega, ?_, rfl⟩
            · omega
            · have ha2 : (r.take (i + 1)).all isHex = true := by rw [List.take_succ_eq_append_getElem hlr, List.all_append, ha]; simp [hc]
              exact List.all_eq_true.1 ha2
        · have hlt' : ¬ (i : Int) < 16 := by omega
          have hi' : i = 16 := by omega
          obtain ⟨m2, hof⟩ := floats_Of_call h m { l := H.l, d := none }
          simp [L_floats_Parse_1, K_floats_Parse_1, h0, h5, h21, h22, hlt', hof]
          rw [hR]
          refine ⟨m2, ?_⟩
          rw [List.take_of_length_le (by omega)] at ha
          simp [parseOk, hp, hl, hr, ha]
      · have hdl2 : ¬ ((s.drop 2).length : Int) = 16 := by omega
        generalize hr : s.drop 2 = r at *
        simp [C_floats_Parse, hcut, hdl2]
        rw [hR]
        exact ⟨0, by simp [parseOk, hl]⟩
  obtain ⟨r, e, hr⟩ := key
  rw [hR] at hr
  obtain ⟨m, rfl⟩ := hr
  exact ⟨m, e⟩

/-- A float's text at the head. -/
def floatOk (s : List UInt8) : Bool := [102, 39].isPrefixOf s && decide (18 ≤ s.length) && ((s.drop 2).take 16).all isHex
def floatT (s : List UInt8) : List UInt8 := if s.length < 18 then [] else s.take 18
theorem floatT_ok {s : List UInt8} (h : floatOk s = true) : floatT s = s.take 18 := by
  simp only [floatOk, Bool.and_eq_true, decide_eq_true_eq] at h
  unfold floatT
  rw [if_neg (by omega)]
theorem lexer_float_call (h : LexT Γ A N) (s : List UInt8) (hs : s.length < 2 ^ 40) (H : Hp) :
    (lim Γ A).call (f_lexer_float N) [avStr s] H = some (.tup [avStr (floatT s), avBool (floatOk s)], none) := by
  by_cases hl : s.length < 18
  · have hl' : (s.length : Int) < 18 := by omega
    have hl2 : ¬ 18 ≤ s.length := by omega
    apply h.float.call (by rfl)
    simp [C_lexer_float, hl', floatOk, hl2, floatT, hl]
  · have hl' : ¬ (s.length : Int) < 18 := by omega
    have hl2 : 18 ≤ s.length := by omega
    apply h.float.call (by rfl)
    have hc := aslstr_upto (k := .i64) (s := s) (j := 18) (by omega) (by simpa using hl2)
    have e18 : (18 : Int).toNat = 18 := rfl
    rw [e18] at hc
    obtain ⟨m, hp⟩ := floats_Parse_call h (s.take 18) (by simp; omega) { l := H.l, d := none }
    have hpe : parseOk (s.take 18) = floatOk s := by
      unfold parseOk floatOk
      have e1 : [102, 39].isPrefixOf (s.take 18) = [102, 39].isPrefixOf s := by
        rw [Bool.eq_iff_iff, List.isPrefixOf_iff_prefix, List.isPrefixOf_iff_prefix, List.prefix_take_iff]
        simp
      have e2 : (s.take 18).length = 18 := by simp; omega
      rw [e1, e2, List.drop_take]
      simp [hl2]
    rw [hpe] at hp
    cases hf : floatOk s <;> rw [hf] at hp <;> simp [C_lexer_float, hl', hc, hp, floatT, hl]
end
end Go.Proofs.Eng
/- Strings' texts, run by the engine. -/
set_option linter.unusedVariables false
set_option linter.unusedSimpArgs false
set_option maxRecDepth 100000
namespace Go.Proofs.Eng
open Go
section
variable {Γ : Sums} {A : Tab} {N : Nat → Nat}

theorem Row.push {e e' : TypeId} {sz bytes : Nat} {x y : AV} {es : List AV} {os r : List (Nat × AObj)} {H0 H : Hp} (h : Row e sz x es os) (hl : Loc H0 H (os ++ r)) (hb : (es.length + 1) * bytes ≤ roomMax) (hg : (y.good && y.cells.length == sz) = true) :
    asElems (halloc H (.arr sz [y] e')) (.ra sz H.l.length 0 1) = some [y] ∧
    ∃ v H' os', appendOn (halloc H (.arr sz [y] e')) e sz bytes x [y] = some (v, some H') ∧ Row e sz v (es ++ [y]) os' ∧ Loc H0 H' (os' ++ r) := by
  refine ⟨by simp [asElems], ?_⟩
  have hL1 := (hl.alloc (.arr sz [y] e')).perm (os' := os ++ (H.l.length, .arr sz [y] e') :: r) List.perm_middle.symm
  obtain ⟨v, H', os', a1, a2, a3⟩ := h.append (bytes := bytes) (ys := [y]) hL1 (by simp) (by simpa using hb) (by simpa using hg)
  refine ⟨v, H', os', a1, a2, a3.sub (List.Sublist.append (List.Sublist.refl _) ((List.Sublist.refl _).cons _))⟩

def textB : List UInt8 → Option (List UInt8 × Nat)
  | [] => none
  | c :: r =>
    if c.toNat = 34 then some ([], 1)
    else if c.toNat < 32 then none
    else if c.toNat = 92 then
      match r with
      | [] => none
      | d :: r' => match escB d with
        | none => none
        | some e => (textB r').map fun q => (e :: q.1, q.2 + 2)
    else (textB r).map fun q => (c :: q.1, q.2 + 1)

theorem textB_cons (c : UInt8) (r : List UInt8) : textB (c :: r) = if c.toNat = 34 then some ([], 1) else if c.toNat < 32 then none else if c.toNat = 92 then (match r with | [] => none | d :: r' => match escB d with | none => none | some e => (textB r').map fun q => (e :: q.1, q.2 + 2)) else (textB r).map fun q => (c :: q.1, q.2 + 1) := by
  rw [textB.eq_def]
theorem textB_le : ∀ (s : List UInt8) {t : List UInt8} {n : Nat}, textB s = some (t, n) → 1 ≤ n ∧ n ≤ s.length
  | [], t, n, h => by simp [textB] at h
  | c :: r, t, n, h => by
    unfold textB at h
    split at h
    · simp only [Option.some.injEq, Prod.mk.injEq] at h; simp; omega
    · split at h
      · simp at h
      · split at h
        · match r, h with
          | d :: r', h =>
            simp only [] at h
            split at h
            · simp at h
            · simp only [Option.map_eq_some_iff, Prod.mk.injEq, Prod.exists] at h
              obtain ⟨t', n', h1, h2, h3⟩ := h
              have := textB_le r' h1
              simp; omega
        · simp only [Option.map_eq_some_iff, Prod.mk.injEq, Prod.exists] at h
          obtain ⟨t', n', h1, h2, h3⟩ := h
          have := textB_le r h1
          simp; omega

def textV (s : List UInt8) : AV := match textB s with | none => .tup [avStr [], avInt .i64 (-1)] | some (t, n) => .tup [avStr t, avInt .i64 n]

theorem lexer_text_call (h : LexT Γ A N) (s : List UInt8) (hs : s.length < 2 ^ 36) (H : Hp) : (lim Γ A).call (f_lexer_text N) [avStr s] H = some (textV s, none) := by
  obtain ⟨R, hR⟩ : ∃ R : AV × Option Hp → Prop, R = fun r => r = (textV s, none) := ⟨_, rfl⟩
  have key : ∃ r, (lim Γ A).call (f_lexer_text N) [avStr s] H = some r ∧ R r := by
    apply h.text.callP (by rfl)
    simp [C_lexer_text]
    refine wp_round (fun k ρ H' => ∃ (i : Nat) (pre : List UInt8) (p : AV) (os : List (Nat × AObj)), ρ 0 = avStr s ∧ ρ 4 = p ∧ ρ 5 = avInt .i64 i ∧ i ≤ s.length ∧ pre.length ≤ i ∧ Row (t_uint8 N) 1 p (pre.map avByte) os ∧ Loc H H' (os ++ []) ∧
        textB s = (textB (s.drop i)).map (fun q => (pre ++ q.1, q.2 + i)) ∧ k = s.length - i) (n := s.length) ?_ ?_
    · refine ⟨0, [], _, [], rfl, rfl, rfl, by omega, by simp, Row.nil _ _, Loc.start H, ?_, rfl⟩
      simp
    · rintro k ρ H' ⟨i, pre, p, os, h0, h4, h5, hi, hpl, hp, hL, ht, rfl⟩
      have bad : textB s = none → R (settle H (.tup [avStr [], avInt .i64 (-1)]) H') := by
        intro e
        rw [settle_keeps (v := .tup [avStr [], avInt .i64 (-1)]) hL.keeps (by simp), hR]
        simp [textV, e]
      by_cases hlt : i < s.length
      · have hlt' : (i : Int) < s.length := by omega
        have hx := asidx_nat (k := .i64) hlt
        have hd : s.drop i = s[i] :: s.drop (i + 1) := List.drop_eq_getElem_cons hlt
        generalize hc : s[i] = c at *
        rw [hd] at ht
        have hw : IntKind.wrap .i64 ((i : Int) + 1) = ((i + 1 : Nat) : Int) := by rw [wrap64 (by omega) (by omega)]; omega
        by_cases c34 : c.toNat = 34
        · have c34' : (c.toNat : Int) = 34 := by omega
          have ht2 : textB s = some (pre, 1 + i) := by rw [ht]; simp [textB_cons, c34]
          have he := Row.elems hp hL
          have hk := settle_keeps (v := .tup [avStr pre, avInt .i64 ((1 + i : Nat) : Int)]) hL.keeps (by simp)
          rw [Nat.add_comm] at hk
          simp [L_lexer_text_1, h0, h4, h5, hlt', hx, c34', he, hw, hk, -Int.natCast_add]
          rw [hR]
          simp [textV, ht2]
          omega
        · have c34' : ¬ (c.toNat : Int) = 34 := by omega
          by_cases c32 : c.toNat < 32
          · have c32' : (c.toNat : Int) < 32 := by omega
            simp [L_lexer_text_1, h0, h4, h5, hlt', hx, c34', c32']
            refine bad ?_
            rw [ht]; simp [textB_cons, c34, c32]
          · have c32' : ¬ (c.toNat : Int) < 32 := by omega
            by_cases c92 : c.toNat = 92
            · have c92' : (c.toNat : Int) = 92 := by omega
              have hw2 : IntKind.wrap .i64 (((i + 1 : Nat) : Int) + 1) = ((i + 2 : Nat) : Int) := by rw [wrap64 (by omega) (by omega)]; omega
              by_cases hlt2 : i + 1 < s.length
              · have hlt2' : ((i + 1 : Nat) : Int) < s.length := by omega
                have hx2 := asidx_nat (k := .i64) hlt2
                have hd2 : s.drop (i + 1) = s[i + 1] :: s.drop (i + 2) := List.drop_eq_getElem_cons hlt2
                have hib := fun s c => IndexByte_call h s c
                have hes := idx_esc s[i + 1]
                rw [hd2] at ht
                generalize hcd : s[i + 1] = d at *
                cases hed : escB d with
                | none =>
                  rw [hed] at hes
                  simp only [] at hes
                  simp [L_lexer_text_1, h0, h4, h5, hlt', hx, c34', c32', c92', hw, hlt2', hx2, hib, hes, -Int.natCast_add]
                  refine bad ?_
                  rw [ht]; simp [textB_cons, c34, c32, c92, hed]
                | some f =>
                  rw [hed] at hes
                  simp only [] at hes
                  have hes1 : ¬ idxOf (mkS [34, 92, 110]) d.toNat < 0 := by omega
                  obtain ⟨q0, v, H2, os', q1, q2, q3⟩ := hp.push (e' := t_uint8 N) (bytes := 1) (y := avByte f) hL (by simp [roomMax]; omega) (by simp)
                  simp [L_lexer_text_1, h0, h4, h5, hlt', hx, c34', c32', c92', hw, hw2, hlt2', hx2, hib, hes1, hes.2, q0, q1, -Int.natCast_add]
                  refine ⟨_, ?_, i + 2, rfl, by omega, pre ++ [f], by simp; omega, os', by simpa using q2, by simpa using q3, ?_, rfl⟩
                  · omega
                  · rw [ht, textB_cons, if_neg c34, if_neg c32, if_pos c92]
                    simp only [hed, Option.map_map]
                    congr 1
                    funext q
                    simp [Nat.add_assoc, Nat.add_comm 2 i]
              · have hlt2' : ¬ ((i + 1 : Nat) : Int) < s.length := by omega
                simp [L_lexer_text_1, h0, h4, h5, hlt', hx, c34', c32', c92', hw, hlt2', -Int.natCast_add]
                refine bad ?_
                rw [ht, List.drop_of_length_le (by omega)]; simp [textB_cons, c34, c32, c92]
            · have c92' : ¬ (c.toNat : Int) = 92 := by omega
              obtain ⟨q0, v, H2, os', q1, q2, q3⟩ := hp.push (e' := t_uint8 N) (bytes := 1) (y := avByte c) hL (by simp [roomMax]; omega) (by simp)
              simp [L_lexer_text_1, h0, h4, h5, hlt', hx, c34', c32', c92', hw, q0, q1, -Int.natCast_add]
              refine ⟨_, ?_, i + 1, rfl, by omega, pre ++ [c], by simp; omega, os', by simpa using q2, by simpa using q3, ?_, rfl⟩
              · omega
              · rw [ht]
                simp only [textB_cons, c34, c32, c92, if_false, Option.map_map]
                congr 1
                funext q
                simp
                omega
      · have hlt' : ¬ (i : Int) < s.length := by omega
        simp [L_lexer_text_1, K_lexer_text_1, h0, h5, hlt']
        have hk := settle_keeps (v := .tup [avStr [], avInt .i64 (-1)]) hL.keeps (by simp)
        simp [hk]
        rw [hR]
        have : textB s = none := by rw [ht, List.drop_of_length_le (by omega)]; rfl
        simp [textV, this]
  obtain ⟨r, e, hr⟩ := key
  rw [hR] at hr
  rw [e, hr]
end
end Go.Proofs.Eng
/- Blanks, and one token, run by the engine. -/
set_option linter.unusedVariables false
set_option linter.unusedSimpArgs false
set_option maxRecDepth 100000
namespace Go.Proofs.Eng
open Go
section
variable {Γ : Sums} {A : Tab} {N : Nat → Nat}

/-- How many of the first bytes are blanks, and notes. -/
def blankB (s : List UInt8) : Nat :=
  match s with
  | [] => 0
  | c :: r => if isBlank c = true then 1 + blankB r else if [47, 47].isPrefixOf (c :: r) = true then 1 + runB notLine r + blankB (r.drop (runB notLine r)) else 0
termination_by s.length
decreasing_by
  · simp
  · simp only [List.length_drop, List.length_cons]; omega
theorem blankB_nil : blankB [] = 0 := by rw [blankB]
theorem blankB_cons (c : UInt8) (r : List UInt8) : blankB (c :: r) = if isBlank c = true then 1 + blankB r else if [47, 47].isPrefixOf (c :: r) = true then 1 + runB notLine r + blankB (r.drop (runB notLine r)) else 0 := by
  rw [blankB]
theorem blankB_le (s : List UInt8) : blankB s ≤ s.length := by
  match s with
  | [] => rw [blankB_nil]; simp
  | c :: r =>
    rw [blankB_cons]
    split
    · have := blankB_le r; simp; omega
    · split
      · have h1 := runB_le notLine r
        have h2 := blankB_le (r.drop (runB notLine r))
        simp only [List.length_drop, List.length_cons] at h2 ⊢
        omega
      · simp
termination_by s.length
decreasing_by
  all_goals simp only [List.length_drop, List.length_cons, InvImage]; omega

theorem lexer_blank_call (h : LexT Γ A N) (hs : LexS Γ A N) (s : List UInt8) (hl : s.length < 2 ^ 36) (H : Hp) : (lim Γ A).call (f_lexer_blank N) [avStr s] H = some (avInt .i64 (blankB s : Nat), none) := by
  apply h.blank.call (by rfl)
  simp [C_lexer_blank, -Int.natCast_add]
  refine wp_round (fun k ρ H' => H' = { l := H.l, d := none } ∧ ∃ i : Nat, ρ 0 = avStr s ∧ ρ 3 = avInt .i64 i ∧ i ≤ s.length ∧ blankB s = i + blankB (s.drop i) ∧ k = s.length - i) (n := s.length) ⟨rfl, 0, rfl, rfl, by omega, by simp, rfl⟩ ?_
  rintro k ρ H' ⟨rfl, i, h0, h3, hi, hb, rfl⟩
  by_cases hlt : i < s.length
  · have hlt' : (i : Int) < s.length := by omega
    have hx := asidx_nat (k := .i64) hlt
    have hd : s.drop i = s[i] :: s.drop (i + 1) := List.drop_eq_getElem_cons hlt
    have hf := aslstr_from (k := .i64) (s := s) (i := (i : Int)) (by omega) (by simpa using hi)
    have hib := fun s c => IndexByte_call h s c
    have hix := idx_blank s[i]
    rw [hd, blankB_cons] at hb
    generalize hc : s[i] = c at *
    cases hbl : isBlank c
    · rw [hbl, decide_eq_false_iff_not] at hix
      have hpre := HasPrefix_call h.strs (s.drop i) [47, 47]
      simp only [Int.toNat_natCast] at hf
      cases hp : [47, 47].isPrefixOf (s.drop i)
      · rw [hp] at hpre
        rw [hd] at hp
        rw [hbl, hp] at hb
        simp at hb
        simp [L_lexer_blank_1, h0, h3, hlt', hx, hib, hix, hf, hpre, hb]
      · rw [hp] at hpre
        rw [hd] at hp
        rw [hbl, hp] at hb
        simp only [Bool.false_eq_true, if_false, if_true] at hb
        have hrun := lexer_run_call hs (lexer_blank1_call hs) (s.drop i) (by simp; omega)
        have hnl : notLine c = true := by
          simp [List.isPrefixOf] at hp
          rw [← hp.1]; decide
        have hr2 : runB notLine (s.drop i) = 1 + runB notLine (s.drop (i + 1)) := by rw [hd]; simp [runB, hnl]; omega
        have hrl := runB_le notLine (s.drop i)
        rw [List.length_drop] at hrl
        have hw : IntKind.wrap .i64 ((i : Int) + (runB notLine (s.drop i) : Int)) = ((i + runB notLine (s.drop i) : Nat) : Int) := by rw [wrap64 (by omega) (by omega)]; omega
        simp [L_lexer_blank_1, h0, h3, hlt', hx, hib, hix, hf, hpre, hrun, hw, -Int.natCast_add]
        refine ⟨_, ?_, i + runB notLine (s.drop i), rfl, by omega, ?_, rfl⟩
        · omega
        · rw [hb, hr2, List.drop_drop, show i + 1 + runB notLine (s.drop (i + 1)) = i + (1 + runB notLine (s.drop (i + 1))) from by omega]
          omega
    · rw [hbl, decide_eq_true_eq] at hix
      rw [hbl] at hb
      simp only [if_true] at hb
      have hw : IntKind.wrap .i64 ((i : Int) + 1) = ((i + 1 : Nat) : Int) := by rw [wrap64 (by omega) (by omega)]; omega
      simp [L_lexer_blank_1, h0, h3, hlt', hx, hib, hix, hw, -Int.natCast_add]
      refine ⟨_, ?_, i + 1, rfl, by omega, ?_, rfl⟩
      · omega
      · omega
  · have hlt' : ¬ (i : Int) < s.length := by omega
    rw [List.drop_of_length_le (by omega), blankB_nil] at hb
    simp [L_lexer_blank_1, K_lexer_blank_1, h0, h3, hlt', hb]
end
end Go.Proofs.Eng
/- One token, run by the engine. -/
set_option linter.unusedVariables false
set_option linter.unusedSimpArgs false
set_option maxRecDepth 100000
namespace Go.Proofs.Eng
open Go
section
variable {Γ : Sums} {A : Tab} {N : Nat → Nat}

/-- The token at the head: its kind, its text, how many bytes. -/
def oneC (c : UInt8) (r s : List UInt8) : Option (Nat × List UInt8 × Nat) :=
    if [102, 39].isPrefixOf s = true then (if floatOk s = true then some (5, s.take 18, 18) else none)
    else if isLow c = true then some (if isWordB (s.take (runB isInName s)) = true then 7 else 1, s.take (runB isInName s), runB isInName s)
    else if isHigh c = true then some (2, s.take (runB isInAlias s), runB isInAlias s)
    else if isDigit c = true then (if numberB (s.take (runB isDigit s)) = true then some (4, s.take (runB isDigit s), runB isDigit s) else none)
    else if (decide (c.toNat = 35) && (r.head?.map isLow).getD false) = true then some (3, r.take (runB isInName r), 1 + runB isInName r)
    else if c.toNat = 34 then (textB r).map fun q => (6, q.1, q.2 + 1)
    else (signsL.find? fun x => x.isPrefixOf s).map fun x => (8, x, x.length)
def oneB (s : List UInt8) : Option (Nat × List UInt8 × Nat) :=
  match s with
  | [] => none
  | c :: r => oneC c r (c :: r)
def tokV (k : Nat) (t : List UInt8) (at' : Nat) : AV := .agg [avInt .i64 k, avStr t, avInt .i64 at']
def oneV (s : List UInt8) : AV := match oneB s with
  | none => .tup [tokV 0 [] 0, avInt .i64 0]
  | some (k, t, n) => .tup [tokV k t 0, avInt .i64 n]

structure LexO (Γ : Sums) (A : Tab) (N : Nat → Nat) : Prop where
  S : LexS Γ A N
  T : LexT Γ A N
  one : Has Γ A (f_lexer_one N) (C_lexer_one N)

section
variable (h : LexO Γ A N) {c : UInt8} {r s : List UInt8} (hsd : c :: r = s) (hl : s.length < 2 ^ 36) (H : Hp)
include h hsd hl
set_option maxHeartbeats 4000000 in
theorem one_float (hp : [102, 39].isPrefixOf s = true) : (lim Γ A).call (f_lexer_one N) [avStr s] H = some (if floatOk s = true then .tup [tokV 5 (s.take 18) 0, avInt .i64 (18 : Nat)] else .tup [tokV 0 [] 0, avInt .i64 0], none) := by
  have hx : asidx (avStr s) (.lit (.int .i64 0)) = some (avByte c) := by
    subst hsd
    exact asidx_nat (k := .i64) (s := c :: r) (i := 0) (by simp)
  have hpre := HasPrefix_call h.T.strs s [102, 39]
  rw [hp] at hpre
  have hfl := lexer_float_call h.T s (by omega)
  apply h.one.call (by rfl)
  cases h4 : floatOk s
  · rw [h4] at hfl
    simp (maxSteps := 10000000) [C_lexer_one, hx, hpre, hfl, tokV, settle_cell]
  · rw [h4, floatT_ok h4] at hfl
    have h18 : min 18 s.length = 18 := by
      simp only [floatOk, Bool.and_eq_true, decide_eq_true_eq] at h4
      omega
    simp (maxSteps := 10000000) [C_lexer_one, hx, hpre, hfl, tokV, settle_cell, h18]
variable (hp : [102, 39].isPrefixOf s = false)
include hp
theorem one_low (h1 : isLow c = true) : (lim Γ A).call (f_lexer_one N) [avStr s] H = some (.tup [tokV (if isWordB (s.take (runB isInName s)) = true then 7 else 1) (s.take (runB isInName s)) 0, avInt .i64 (runB isInName s)], none) := by
  have hx : asidx (avStr s) (.lit (.int .i64 0)) = some (avByte c) := by
    subst hsd
    exact asidx_nat (k := .i64) (s := c :: r) (i := 0) (by simp)
  have hpre := HasPrefix_call h.T.strs s [102, 39]
  rw [hp] at hpre
  have hlow := lexer_low_call h.S c
  rw [h1] at hlow
  have hrun := lexer_run_call h.S (lexer_inName_call h.S) s (by omega)
  have hcut := aslstr_upto (k := .i64) (s := s) (j := (runB isInName s : Int)) (by omega) (by simpa using runB_le _ s)
  simp only [Int.toNat_natCast] at hcut
  have hw := lexer_IsWord_call h.S (s.take (runB isInName s))
  apply h.one.call (by rfl)
  cases h4 : isWordB (s.take (runB isInName s)) <;> rw [h4] at hw <;> simp [C_lexer_one, hx, hpre, hlow, hrun, hcut, hw, tokV, settle_cell]
variable (h1 : isLow c = false)
include h1
theorem one_high (h2 : isHigh c = true) : (lim Γ A).call (f_lexer_one N) [avStr s] H = some (.tup [tokV 2 (s.take (runB isInAlias s)) 0, avInt .i64 (runB isInAlias s)], none) := by
  have hx : asidx (avStr s) (.lit (.int .i64 0)) = some (avByte c) := by
    subst hsd
    exact asidx_nat (k := .i64) (s := c :: r) (i := 0) (by simp)
  have hpre := HasPrefix_call h.T.strs s [102, 39]
  rw [hp] at hpre
  have hlow := lexer_low_call h.S c
  rw [h1] at hlow
  have hhigh := lexer_high_call h.S c
  rw [h2] at hhigh
  have hrun := lexer_run_call h.S (lexer_inAlias_call h.S) s (by omega)
  have hcut := aslstr_upto (k := .i64) (s := s) (j := (runB isInAlias s : Int)) (by omega) (by simpa using runB_le _ s)
  simp only [Int.toNat_natCast] at hcut
  apply h.one.call (by rfl)
  simp [C_lexer_one, hx, hpre, hlow, hhigh, hrun, hcut, tokV, settle_cell]
variable (h2 : isHigh c = false)
include h2
theorem one_digit (h3 : isDigit c = true) : (lim Γ A).call (f_lexer_one N) [avStr s] H = some (if numberB (s.take (runB isDigit s)) = true then .tup [tokV 4 (s.take (runB isDigit s)) 0, avInt .i64 (runB isDigit s)] else .tup [tokV 0 [] 0, avInt .i64 0], none) := by
  have hx : asidx (avStr s) (.lit (.int .i64 0)) = some (avByte c) := by
    subst hsd
    exact asidx_nat (k := .i64) (s := c :: r) (i := 0) (by simp)
  have hpre := HasPrefix_call h.T.strs s [102, 39]
  rw [hp] at hpre
  have hlow := lexer_low_call h.S c
  rw [h1] at hlow
  have hhigh := lexer_high_call h.S c
  rw [h2] at hhigh
  have hdig := lexer_digit_call h.S c
  rw [h3] at hdig
  have hrun := lexer_run_call h.S (lexer_digit_call h.S) s (by omega)
  have hnum := lexer_number_call h.S (s.take (runB isDigit s))
  have hcut := aslstr_upto (k := .i64) (s := s) (j := (runB isDigit s : Int)) (by omega) (by simpa using runB_le _ s)
  simp only [Int.toNat_natCast] at hcut
  apply h.one.call (by rfl)
  cases h4 : numberB (s.take (runB isDigit s)) <;> rw [h4] at hnum <;> simp [C_lexer_one, hx, hpre, hlow, hhigh, hdig, hrun, hcut, hnum, tokV, settle_cell]
variable (h3 : isDigit c = false)
include h3
theorem one_tag {d : UInt8} {r' : List UInt8} (h4 : c.toNat = 35) (hr : r = d :: r') (h5 : isLow d = true) :
    (lim Γ A).call (f_lexer_one N) [avStr s] H = some (.tup [tokV 3 (r.take (runB isInName r)) 0, avInt .i64 ((1 + runB isInName r : Nat) : Int)], none) := by
  have hx : asidx (avStr s) (.lit (.int .i64 0)) = some (avByte c) := by
    subst hsd
    exact asidx_nat (k := .i64) (s := c :: r) (i := 0) (by simp)
  have hsl : s.length = r.length + 1 := by rw [← hsd]; rfl
  have hrl : 1 ≤ r.length := by rw [hr]; simp
  have hx1 : asidx (avStr s) (.lit (.int .i64 1)) = some (avByte d) := by
    have := asidx_nat (k := .i64) (s := s) (i := 1) (by omega)
    subst hsd; subst hr
    exact this
  have hpre := HasPrefix_call h.T.strs s [102, 39]
  rw [hp] at hpre
  have hlow := lexer_low_call h.S c
  rw [h1] at hlow
  have hlowd := lexer_low_call h.S d
  rw [h5] at hlowd
  have hhigh := lexer_high_call h.S c
  rw [h2] at hhigh
  have hdig := lexer_digit_call h.S c
  rw [h3] at hdig
  have h4' : (c.toNat : Int) = 35 := by omega
  have hl1 : (1 : Int) < s.length := by omega
  have hfr : aslstr (avStr s) (some (.lit (.int .i64 1))) none = some (avStr r) := by
    have := aslstr_from (k := .i64) (s := s) (i := 1) (by omega) (by show 1 ≤ _; omega)
    rw [this, ← hsd]; rfl
  have hrb := runB_le isInName r
  have hrun := lexer_run_call h.S (lexer_inName_call h.S) r (by omega)
  have hw : IntKind.wrap .i64 (1 + (runB isInName r : Int)) = ((1 + runB isInName r : Nat) : Int) := by rw [wrap64 (by omega) (by omega)]; omega
  have hcut : aslstr (avStr s) (some (.lit (.int .i64 1))) (some (.lit (.int .i64 ((1 + runB isInName r : Nat) : Int)))) = some (avStr (r.take (runB isInName r))) := by
    have e : ((1 + runB isInName r : Nat) : Int).toNat - (1 : Int).toNat = runB isInName r := by omega
    rw [aslstr_cut (by omega) (by omega) (by omega), e, ← hsd]
    rfl
  apply h.one.call (by rfl)
  simp [C_lexer_one, hx, hx1, hpre, hlow, hlowd, hhigh, hdig, h4', hl1, hfr, hrun, hw, hcut, tokV, settle_cell, -Int.natCast_add]
end
end
end Go.Proofs.Eng
/- One token: strings and signs. -/
set_option linter.unusedVariables false
set_option linter.unusedSimpArgs false
set_option maxRecDepth 100000
namespace Go.Proofs.Eng
open Go
section
variable {Γ : Sums} {A : Tab} {N : Nat → Nat}

theorem signs_loop (h : LexO Γ A N) {s : List UInt8} {ρ : Rho} {H : Hp} {Q : Post} {a b c : AV} {p : Nat} {t : TypeId} (h0 : ρ 0 = avStr s) (h2 : ρ 2 = .ptr p 0) (h115 : ρ 115 = .sl 1 (signsL.map avStr)) (h116 : ρ 116 = avInt .i64 27) (h117 : ρ 117 = avInt .i64 0)
    (hg : hget H p = some (.cells [a, b, c] t)) (hp : p < H.l.length)
    (hR : ∀ (ρ' : Rho) (x : List UInt8), signsL.find? (fun x => x.isPrefixOf s) = some x → ρ' 2 = .ptr p 0 → ρ' 3 = avInt .i64 x.length → Q .ret ρ' (hset H p (some (.cells [avInt .i64 8, avStr x, avInt .i64 0] t))))
    (hE : signsL.find? (fun x => x.isPrefixOf s) = none → ∀ ρ' : Rho, ρ' 2 = .ptr p 0 → Q (.exit 1) ρ' H) : wp (lim Γ A) none (.loop (L_lexer_one_1 N)) ρ H Q := by
  refine wp_round (fun k ρ H' => H' = H ∧ ∃ i : Nat, ρ 0 = avStr s ∧ ρ 2 = .ptr p 0 ∧ ρ 115 = .sl 1 (signsL.map avStr) ∧ ρ 116 = avInt .i64 27 ∧ ρ 117 = avInt .i64 i ∧ i ≤ 27 ∧ signsL.find? (fun x => x.isPrefixOf s) = (signsL.drop i).find? (fun x => x.isPrefixOf s) ∧ k = 27 - i) (n := 27)
    ⟨rfl, 0, h0, h2, h115, h116, h117, by omega, rfl, rfl⟩ ?_
  rintro k ρ H' ⟨rfl, i, h0, h2, h115, h116, h117, hi, hf, rfl⟩
  have h27 : signsL.length = 27 := rfl
  by_cases hlt : i < 27
  · have hlt' : (i : Int) < 27 := by omega
    have hls : i < signsL.length := by omega
    have ha := aiaddr_sln (sz := 1) (xs := signsL.map avStr) (k := .i64) (i := i) (x := avStr signsL[i]) (by simp [hls]) rfl
    rw [List.drop_eq_getElem_cons hls] at hf
    have hpre := HasPrefix_call h.T.strs s signsL[i]
    generalize signsL[i] = x at *
    cases hx : x.isPrefixOf s
    · rw [hx] at hpre
      rw [List.find?_cons, hx] at hf
      have hw : IntKind.wrap .i64 ((i : Int) + 1) = ((i + 1 : Nat) : Int) := by rw [wrap64 (by omega) (by omega)]; omega
      simp [L_lexer_one_1, h0, h2, h115, h116, h117, hlt', ha, aload, hpre, hw, -Int.natCast_add]
      refine ⟨27 - (i + 1), by omega, i + 1, rfl, by omega, hf, rfl⟩
    · rw [hx] at hpre
      rw [List.find?_cons, hx] at hf
      simp [L_lexer_one_1, h0, h2, h115, h116, h117, hlt', ha, aload, hpre, astore, hg, setFrom, -Int.natCast_add]
      refine hR _ x hf ?_ ?_
      · simp [h2]
      · simp
  · have hlt' : ¬ (i : Int) < 27 := by omega
    rw [List.drop_of_length_le (by omega)] at hf
    simp [L_lexer_one_1, h0, h2, h115, h116, h117, hlt']
    refine hE hf _ ?_
    simp [h2]

section
variable (h : LexO Γ A N) {c : UInt8} {r s : List UInt8} (hsd : c :: r = s) (hl : s.length < 2 ^ 36) (H : Hp)
variable (hp : [102, 39].isPrefixOf s = false) (h1 : isLow c = false) (h2 : isHigh c = false) (h3 : isDigit c = false)
include h hsd hl hp h1 h2 h3
theorem lone_str (h4 : c.toNat = 34) : (lim Γ A).call (f_lexer_one N) [avStr s] H = some (match textB r with | none => .tup [tokV 0 [] 0, avInt .i64 0] | some (t, n) => .tup [tokV 6 t 0, avInt .i64 ((n + 1 : Nat) : Int)], none) := by
  have hx : asidx (avStr s) (.lit (.int .i64 0)) = some (avByte c) := by
    subst hsd
    exact asidx_nat (k := .i64) (s := c :: r) (i := 0) (by simp)
  have hsl : s.length = r.length + 1 := by rw [← hsd]; rfl
  have hpre := HasPrefix_call h.T.strs s [102, 39]
  rw [hp] at hpre
  have hlow := lexer_low_call h.S c
  rw [h1] at hlow
  have hhigh := lexer_high_call h.S c
  rw [h2] at hhigh
  have hdig := lexer_digit_call h.S c
  rw [h3] at hdig
  have h4' : (c.toNat : Int) = 34 := by omega
  have hfr : aslstr (avStr s) (some (.lit (.int .i64 1))) none = some (avStr r) := by
    have := aslstr_from (k := .i64) (s := s) (i := 1) (by omega) (by show 1 ≤ _; omega)
    rw [this, ← hsd]; rfl
  have htx := lexer_text_call h.T r (by omega)
  apply h.one.call (by rfl)
  cases ht : textB r with
  | none =>
    rw [textV, ht] at htx
    simp only [] at htx
    simp [C_lexer_one, hx, hpre, hlow, hhigh, hdig, h4', hfr, htx, tokV, settle_cell, -Int.natCast_add]
  | some q =>
    obtain ⟨t, n⟩ := q
    rw [textV, ht] at htx
    simp only [] at htx
    have hn := textB_le r ht
    have hn' : ¬ (n : Int) < 0 := by omega
    have hw : IntKind.wrap .i64 ((n : Int) + 1) = ((n + 1 : Nat) : Int) := by rw [wrap64 (by omega) (by omega)]; omega
    simp [C_lexer_one, hx, hpre, hlow, hhigh, hdig, h4', hfr, htx, hn', hw, tokV, settle_cell, -Int.natCast_add]
theorem lone_signs (h4 : c.toNat ≠ 34) (h5 : (decide (c.toNat = 35) && (r.head?.map isLow).getD false) = false) :
    (lim Γ A).call (f_lexer_one N) [avStr s] H = some (match signsL.find? (fun x => x.isPrefixOf s) with | none => .tup [tokV 0 [] 0, avInt .i64 0] | some x => .tup [tokV 8 x 0, avInt .i64 x.length], none) := by
  have hx : asidx (avStr s) (.lit (.int .i64 0)) = some (avByte c) := by
    subst hsd
    exact asidx_nat (k := .i64) (s := c :: r) (i := 0) (by simp)
  have hsl : s.length = r.length + 1 := by rw [← hsd]; rfl
  have hpre := HasPrefix_call h.T.strs s [102, 39]
  rw [hp] at hpre
  have hlow := lexer_low_call h.S c
  rw [h1] at hlow
  have hhigh := lexer_high_call h.S c
  rw [h2] at hhigh
  have hdig := lexer_digit_call h.S c
  rw [h3] at hdig
  have h4' : ¬ (c.toNat : Int) = 34 := by omega
  have hsg := lexer_signs_call h.S
  apply h.one.call (by rfl)
  have tail : ∀ ρ : Rho, ρ 0 = avStr s → ρ 2 = .ptr H.l.length 0 → ρ 115 = .sl 1 (signsL.map avStr) → ρ 116 = avInt .i64 27 → ρ 117 = avInt .i64 0 →
      wp (lim Γ A) none (.loop (L_lexer_one_1 N)) ρ (halloc { l := H.l, d := none } (.cells [.lit (.int .i64 0), .lit (.string (mkS [])), .lit (.int .i64 0)] (t_api_Token N)))
        (blockP 1 (seqP (lim Γ A) none (K_lexer_one_1 N) (Ends (C_lexer_one N).results (C_lexer_one N).frz H fun p => p = (match signsL.find? (fun x => x.isPrefixOf s) with | none => .tup [tokV 0 [] 0, avInt .i64 0] | some x => .tup [tokV 8 x 0, avInt .i64 x.length], none)))) := by
    intro ρ r0 r2 r115 r116 r117
    refine signs_loop h r0 r2 r115 r116 r117 (a := .lit (.int .i64 0)) (b := .lit (.string (mkS []))) (c := .lit (.int .i64 0)) (t := t_api_Token N) (by simp) (by simp) ?_ ?_
    · intro ρ' x hx r2 r3
      simp [C_lexer_one, hx, r2, r3, aload, tokV, settle_cell]
    · intro hx ρ' r2
      simp [C_lexer_one, K_lexer_one_1, hx, r2, aload, astore, setFrom, tokV, settle_cell]
  by_cases c35 : c.toNat = 35
  · have c35' : (c.toNat : Int) = 35 := by omega
    by_cases hr : r.length = 0
    · have hl1 : ¬ (1 : Int) < s.length := by omega
      simp [C_lexer_one, hx, hpre, hlow, hhigh, hdig, c35', hl1, hsg, asLen]
      refine tail _ ?_ ?_ ?_ ?_ ?_ <;> simp [signsL]
    · obtain ⟨d, r', rfl⟩ : ∃ d r', r = d :: r' := by cases r with | nil => exact absurd rfl hr | cons d r' => exact ⟨d, r', rfl⟩
      have hl1 : (1 : Int) < s.length := by omega
      have hx1 : asidx (avStr s) (.lit (.int .i64 1)) = some (avByte d) := by
        have := asidx_nat (k := .i64) (s := s) (i := 1) (by omega)
        subst hsd
        exact this
      have hd : isLow d = false := by simpa [c35] using h5
      have hlowd := lexer_low_call h.S d
      rw [hd] at hlowd
      simp [C_lexer_one, hx, hpre, hlow, hhigh, hdig, c35', hl1, hx1, hlowd, hsg, asLen]
      refine tail _ ?_ ?_ ?_ ?_ ?_ <;> simp [signsL]
  · have c35' : ¬ (c.toNat : Int) = 35 := by omega
    simp [C_lexer_one, hx, hpre, hlow, hhigh, hdig, c35', h4', hsg, asLen]
    refine tail _ ?_ ?_ ?_ ?_ ?_ <;> simp [signsL]
end
theorem lexer_one_call (h : LexO Γ A N) (s : List UInt8) (hne : s ≠ []) (hl : s.length < 2 ^ 36) (H : Hp) : (lim Γ A).call (f_lexer_one N) [avStr s] H = some (oneV s, none) := by
  obtain ⟨c, r, hsd⟩ : ∃ c r, c :: r = s := by cases s with | nil => exact absurd rfl hne | cons c r => exact ⟨c, r, rfl⟩
  have hone : oneB s = oneC c r s := by rw [← hsd]; rfl
  unfold oneV
  rw [hone]
  unfold oneC
  cases hp : [102, 39].isPrefixOf s
  · cases h1 : isLow c
    · cases h2 : isHigh c
      · cases h3 : isDigit c
        · cases h5 : (decide (c.toNat = 35) && (r.head?.map isLow).getD false)
          · by_cases h4 : c.toNat = 34
            · rw [lone_str h hsd hl H hp h1 h2 h3 h4]
              simp only [Bool.false_eq_true, if_false, h4, if_true]
              cases textB r <;> rfl
            · rw [lone_signs h hsd hl H hp h1 h2 h3 h4 h5]
              simp only [Bool.false_eq_true, if_false, h4]
              cases signsL.find? (fun x => x.isPrefixOf s) <;> rfl
          · rw [Bool.and_eq_true, decide_eq_true_eq] at h5
            obtain ⟨d, r', hr⟩ : ∃ d r', r = d :: r' := by
              cases r with
              | nil => simp at h5
              | cons d r' => exact ⟨d, r', rfl⟩
            rw [one_tag h hsd hl H hp h1 h2 h3 h5.1 hr (by rw [hr] at h5; simpa using h5.2)]
            simp
        · rw [one_digit h hsd hl H hp h1 h2 h3]
          cases numberB (s.take (runB isDigit s)) <;> simp
      · rw [one_high h hsd hl H hp h1 h2]
        simp
    · rw [one_low h hsd hl H hp h1]
      simp
  · rw [one_float h hsd hl H hp]
    cases floatOk s <;> simp
end
end Go.Proofs.Eng
/- The tokens of a text, run by the engine. -/
set_option linter.unusedVariables false
set_option linter.unusedSimpArgs false
set_option maxRecDepth 100000
namespace Go.Proofs.Eng
open Go
section
variable {Γ : Sums} {A : Tab} {N : Nat → Nat}

abbrev Tok := Nat × List UInt8 × Nat
def tokA (t : Tok) : AV := tokV t.1 t.2.1 t.2.2
theorem tokA_good (t : Tok) : ((tokA t).good && (tokA t).cells.length == 3) = true := rfl
theorem runB_pos {p : UInt8 → Bool} {c : UInt8} {r : List UInt8} (h : p c = true) : 1 ≤ runB p (c :: r) := by simp [runB, h]
theorem oneB_pos {s : List UInt8} {k : Nat} {t : List UInt8} {n : Nat} (h : oneB s = some (k, t, n)) : 1 ≤ n ∧ n ≤ s.length := by
  cases s with
  | nil => simp [oneB] at h
  | cons c r =>
    simp only [oneB, oneC] at h
    have rl := fun p => runB_le p (c :: r)
    split at h
    · split at h
      · rename_i hf
        simp only [Option.some.injEq, Prod.mk.injEq] at h
        simp only [floatOk, Bool.and_eq_true, decide_eq_true_eq] at hf
        omega
      · simp at h
    · split at h
      · rename_i h1
        simp only [Option.some.injEq, Prod.mk.injEq] at h
        have := runB_pos (p := isInName) (c := c) (r := r) (by simp [isInName, h1])
        have := rl isInName
        omega
      · split at h
        · rename_i h1
          simp only [Option.some.injEq, Prod.mk.injEq] at h
          have := runB_pos (p := isInAlias) (c := c) (r := r) (by simp [isInAlias, h1])
          have := rl isInAlias
          omega
        · split at h
          · rename_i h1
            split at h
            · simp only [Option.some.injEq, Prod.mk.injEq] at h
              have := runB_pos (p := isDigit) (c := c) (r := r) h1
              have := rl isDigit
              omega
            · simp at h
          · split at h
            · simp only [Option.some.injEq, Prod.mk.injEq] at h
              have := runB_le isInName r
              simp only [List.length_cons]
              omega
            · split at h
              · simp only [Option.map_eq_some_iff, Prod.mk.injEq, Prod.exists] at h
                obtain ⟨t', n', h1, h2, h3, h4⟩ := h
                have := textB_le r h1
                simp only [List.length_cons]
                omega
              · simp only [Option.map_eq_some_iff, Prod.mk.injEq] at h
                obtain ⟨x, h1, h2, h3, h4⟩ := h
                have h5 := List.mem_of_find?_eq_some h1
                have h6 := List.find?_some h1
                have h7 := (List.isPrefixOf_iff_prefix.1 h6).length_le
                have h8 : ∀ x ∈ signsL, 1 ≤ x.length := by decide
                have := h8 x h5
                omega

theorem hget_small {H : Hp} {i : Nat} {o : AObj} (h : hget H i = some o) : i < H.l.length := by
  rcases Nat.lt_or_ge i H.l.length with h1 | h1
  · exact h1
  · simp [hget, List.getElem?_eq_none h1] at h
def tokF : Nat → Nat → List UInt8 → List Tok × Option Nat
  | 0, _, _ => ([], none)
  | k + 1, at', s =>
    if s = [] then ([(0, [], at')], none)
    else match oneB s with
      | none => ([], some at')
      | some (kd, t, n) =>
        let q := tokF k (at' + n + blankB (s.drop n)) ((s.drop n).drop (blankB (s.drop n)))
        ((kd, t, at') :: q.1, q.2)
theorem tokF_fuel : ∀ (k j at' : Nat) (s : List UInt8), s.length < k → s.length < j → tokF k at' s = tokF j at' s
  | 0, _, _, _, h, _ => by omega
  | _, 0, _, _, _, h => by omega
  | k + 1, j + 1, at', s, h1, h2 => by
    simp only [tokF]
    split
    · rfl
    · cases h : oneB s with
      | none => rfl
      | some q =>
        obtain ⟨kd, t, n⟩ := q
        have hp := oneB_pos h
        simp only []
        rw [tokF_fuel k j _ _ (by simp only [List.length_drop]; omega) (by simp only [List.length_drop]; omega)]
theorem tokF_some {k at' : Nat} {s : List UInt8} {kd n : Nat} {t : List UInt8} (hs : s ≠ []) (h : oneB s = some (kd, t, n)) :
    tokF (k + 1) at' s = ((kd, t, at') :: (tokF k (at' + n + blankB (s.drop n)) ((s.drop n).drop (blankB (s.drop n)))).1, (tokF k (at' + n + blankB (s.drop n)) ((s.drop n).drop (blankB (s.drop n)))).2) := by
  simp only [tokF, hs, if_false, h]
def tokR (at' : Nat) (s : List UInt8) : List Tok × Option Nat := tokF (s.length + 1) at' s
theorem tokR_nil (at' : Nat) : tokR at' [] = ([(0, [], at')], none) := rfl
theorem tokR_none {at' : Nat} {s : List UInt8} (hs : s ≠ []) (h : oneB s = none) : tokR at' s = ([], some at') := by
  simp [tokR, tokF, hs, h]
theorem tokR_some {at' : Nat} {s : List UInt8} {kd n : Nat} {t : List UInt8} (hs : s ≠ []) (h : oneB s = some (kd, t, n)) :
    tokR at' s = ((kd, t, at') :: (tokR (at' + n + blankB (s.drop n)) ((s.drop n).drop (blankB (s.drop n)))).1, (tokR (at' + n + blankB (s.drop n)) ((s.drop n).drop (blankB (s.drop n)))).2) := by
  have hp := oneB_pos h
  unfold tokR
  rw [tokF_some hs h, tokF_fuel s.length (((s.drop n).drop (blankB (s.drop n))).length + 1) _ _ (by simp only [List.length_drop]; omega) (by omega)]
def lexR (b : List UInt8) : List Tok × Nat × Nat :=
  if 1048576 < b.length then ([], 6, 0)
  else if stopOf b ≠ b.length then ([], 2, stopOf b)
  else match tokR (blankB b) (b.drop (blankB b)) with
    | (l, none) => (l, 0, 0)
    | (_, some p) => ([], 3, p)
def diagV (e p : Nat) : AV := .agg [avInt .i64 e, avInt .i64 p, avStr []]

theorem frz_tok {L : HL} {n k : Nat} (t : Tok) : frz L n (k + 2) (tokA t) = some (tokA t) := by
  simp [tokA, tokV, frz, List.mapM_cons]
theorem frz_diag {L : HL} {n k e p : Nat} : frz L n (k + 2) (diagV e p) = some (diagV e p) := by
  simp [diagV, frz, List.mapM_cons]
theorem mapM_self {α : Type} {f : α → Option α} : ∀ {l : List α}, (∀ x ∈ l, f x = some x) → l.mapM f = some l
  | [], _ => by simp
  | a :: l, h => by
    rw [List.mapM_cons, h a List.mem_cons_self, mapM_self (l := l) fun x hx => h x (List.mem_cons_of_mem _ hx)]
    rfl

structure LexA (Γ : Sums) (A : Tab) (N : Nat → Nat) : Prop extends LexO Γ A N where
  runes : RunesAll Γ A N
  bad : Has Γ A (f_runes_Bad N) (C_runes_Bad N)
  lex : Has Γ A (f_lexer_Lex N) (C_lexer_Lex N)

theorem lexer_Lex_call (h : LexA Γ A N) {x : AV} {b : List UInt8} (H : Hp) (hx : VBytes H x b) (hl : b.length < 2 ^ 36) :
    ∃ u, (lim Γ A).call (f_lexer_Lex N) [x] H = some (.tup [u, diagV (lexR b).2.1 (lexR b).2.2], none) ∧ Fzr 3 u ((lexR b).1.map tokA) := by
  obtain ⟨R, hR⟩ : ∃ R : AV × Option Hp → Prop, R = fun r => ∃ u, r = (.tup [u, diagV (lexR b).2.1 (lexR b).2.2], none) ∧ Fzr 3 u ((lexR b).1.map tokA) := ⟨_, rfl⟩
  have key : ∃ r, (lim Γ A).call (f_lexer_Lex N) [x] H = some r ∧ R r := by
    apply h.lex.callP (by rfl)
    have hlen := Vw.len hx
    rw [List.length_map] at hlen
    have fail : ∀ (e p : Nat) (H' : Hp) (os : List (Nat × AObj)), Loc H H' os → lexR b = ([], e, p) → R (settleZ true H (.tup [avNilS, diagV e p]) H') := by
      intro e p H' os hL hr
      rw [settleZ_frz (u := .tup [avNilS, diagV e p]) hL.keeps (by rw [frz_tup, mapM_cons', mapM_cons', frz_diag]; simp [frz]), hR]
      exact ⟨_, by rw [hr], .inl ⟨rfl, by rw [hr]; rfl⟩⟩
    by_cases hlong : 1048576 < b.length
    · have hlong' : (1048576 : Int) < b.length := by omega
      simp [C_lexer_Lex, hlen, hlong', aload, astore, setFrom]
      exact fail 6 0 _ _ (((Loc.start H).alloc _).set _) (by simp [lexR, hlong])
    · have hlong' : ¬ (1048576 : Int) < b.length := by omega
      have hL0 := (Loc.start H).alloc (.cells [.lit (.int .i64 0), .lit (.int .i64 0), .lit (.string (mkS []))] (t_api_Diag N))
      have hx0 := Vw.loc hx hL0
      have hbad := runes_Bad_call h.runes h.bad _ hx0 (by omega)
      by_cases hst : stopOf b = b.length
      · have hb0 : badOf b = -1 := by simp [badOf, hst]
        rw [hb0] at hbad
        have hstr := VBytes.str hx0
        have hbl := lexer_blank_call h.T h.S b hl
        simp [C_lexer_Lex, hlen, hlong', hbad, hstr, hbl]
        have hz := blankB_le b
        refine wp_round (fun k ρ H' => ∃ (at' : Nat) (l : List Tok) (p : AV) (os : List (Nat × AObj)), ρ 3 = .ptr H.l.length 0 ∧ ρ 5 = p ∧ ρ 6 = avStr b ∧ ρ 7 = avInt .i64 at' ∧ at' ≤ b.length ∧ l.length ≤ at' ∧ Row (t_api_Token N) 3 p (l.map tokA) os ∧
            Loc H H' (os ++ [(H.l.length, .cells [.lit (.int .i64 0), .lit (.int .i64 0), .lit (.string (mkS []))] (t_api_Diag N))]) ∧
            tokR (blankB b) (b.drop (blankB b)) = (l ++ (tokR at' (b.drop at')).1, (tokR at' (b.drop at')).2) ∧ k = b.length - at') (n := b.length - blankB b) ?_ ?_
        · refine ⟨blankB b, [], _, [], ?_, rfl, ?_, ?_, hz, by simp, Row.nil _ _, hL0, by simp, rfl⟩ <;> simp
        · rintro k ρ H' ⟨at', l, p, os, h3, h5, h6, h7, hat, hll, hp, hL, ht, rfl⟩
          have hgd := hL.get (List.mem_append_right _ List.mem_cons_self)
          simp only [] at hgd
          have hnl : ¬ H.l.length = H'.l.length := by
            intro e
            rw [e] at hgd
            simp [hget] at hgd
          by_cases hlt : at' < b.length
          · have hlt' : (at' : Int) < b.length := by omega
            have hne : b.drop at' ≠ [] := by
              intro e
              have := congrArg List.length e
              simp at this
              omega
            have hone := lexer_one_call h.toLexO (b.drop at') hne (by simp; omega) H'
            have hf := aslstr_from (k := .i64) (s := b) (i := (at' : Int)) (by omega) (by simpa using hat)
            simp only [Int.toNat_natCast] at hf
            unfold oneV at hone
            cases ho : oneB (b.drop at') with
            | none =>
              rw [ho] at hone
              simp only [] at hone
              rw [tokR_none hne ho] at ht
              have hL1 := (hL.alloc (.cells [.lit (.int .i64 0), .lit (.string (mkS [])), .lit (.int .i64 0)] (t_api_Token N))).set (.cells [avInt .i64 0, avStr [], avInt .i64 0] (t_api_Token N))
              have hlt3 : H.l.length < H'.l.length + 1 := by have := hget_small hgd; omega
              have hL2 := Loc.setMid (as := (H'.l.length, _) :: os) (bs := []) hL1 (.cells [avInt .i64 3, avInt .i64 at', avStr []] (t_api_Diag N))
              have hlx : lexR b = ([], 3, at') := by
                unfold lexR
                rw [if_neg hlong, if_neg (by simpa using hst), ht]
              simp [L_lexer_Lex_1, h3, h5, h6, h7, hlt', hf, hone, aload, astore, setFrom, tokV, hgd, hnl, hlt3, -Int.natCast_add]
              exact fail 3 at' _ _ hL2 hlx
            | some q =>
              obtain ⟨kd, t, n⟩ := q
              rw [ho] at hone
              simp only [] at hone
              have hpos := oneB_pos ho
              rw [tokR_some hne ho] at ht
              have hn0 : ¬ n = 0 := by omega
              rw [List.length_drop] at hpos
              have hL1 := ((hL.alloc (.cells [.lit (.int .i64 0), .lit (.string (mkS [])), .lit (.int .i64 0)] (t_api_Token N))).set (.cells [avInt .i64 kd, avStr t, avInt .i64 (0 : Nat)] (t_api_Token N))).set (.cells [avInt .i64 kd, avStr t, avInt .i64 at'] (t_api_Token N))
              have hL2 := hL1.perm (os' := os ++ (H'.l.length, .cells [avInt .i64 kd, avStr t, avInt .i64 at'] (t_api_Token N)) :: [(H.l.length, .cells [.lit (.int .i64 0), .lit (.int .i64 0), .lit (.string (mkS []))] (t_api_Diag N))]) List.perm_middle.symm
              obtain ⟨q0, v, H2, os', q1, q2, q3⟩ := hp.push (e' := t_api_Token N) (bytes := 32) (y := tokA (kd, t, at')) hL2 (by simp [roomMax]; omega) (tokA_good _)
              have hll : (hset (hset (halloc H' (.cells [.lit (.int .i64 0), .lit (.string (mkS [])), .lit (.int .i64 0)] (t_api_Token N))) H'.l.length (some (.cells [avInt .i64 kd, avStr t, avInt .i64 (0 : Nat)] (t_api_Token N)))) H'.l.length (some (.cells [avInt .i64 kd, avStr t, avInt .i64 at'] (t_api_Token N)))).l.length = H'.l.length + 1 := by simp
              rw [hll] at q0
              simp only [tokA, tokV, Int.natCast_zero] at q0 q1
              have hw : IntKind.wrap .i64 ((at' : Int) + (n : Int)) = ((at' + n : Nat) : Int) := by rw [wrap64 (by omega) (by omega)]; omega
              have hf2 := aslstr_from (k := .i64) (s := b) (i := ((at' + n : Nat) : Int)) (by omega) (by omega)
              simp only [Int.toNat_natCast] at hf2
              have hb2 := lexer_blank_call h.T h.S (b.drop (at' + n)) (by simp; omega)
              have hble := blankB_le (b.drop (at' + n))
              rw [List.length_drop] at hble
              have hw2 : IntKind.wrap .i64 (((at' + n : Nat) : Int) + (blankB (b.drop (at' + n)) : Int)) = ((at' + n + blankB (b.drop (at' + n)) : Nat) : Int) := by rw [wrap64 (by omega) (by omega)]; omega
              simp [L_lexer_Lex_1, h3, h5, h6, h7, hlt', hf, hone, aload, astore, setFrom, tokV, hn0, afaddr, q0, q1, hw, hf2, hb2, hw2, -Int.natCast_add]
              refine ⟨_, ?_, at' + n + blankB (b.drop (at' + n)), rfl, by omega, l ++ [(kd, t, at')], by simp; omega, os', by simpa [tokA, tokV] using q2, ?_, ?_, rfl⟩
              · omega
              · exact q3.sub (List.Sublist.append (List.Sublist.refl _) ((List.Sublist.refl _).cons _))
              · rw [ht]
                simp [List.drop_drop, Nat.add_assoc]
          · have hlt' : ¬ (at' : Int) < b.length := by omega
            have hab : at' = b.length := by omega
            rw [show b.drop at' = [] from List.drop_of_length_le (by omega), tokR_nil] at ht
            obtain ⟨q0, v, H2, os', q1, q2, q3⟩ := hp.push (e' := t_api_Token N) (bytes := 32) (y := tokA (0, [], b.length)) hL (by simp [roomMax]; omega) (tokA_good _)
            have hgd2 := q3.get (List.mem_append_right _ List.mem_cons_self)
            simp only [] at hgd2
            simp only [tokA, tokV, Int.natCast_zero] at q0 q1
            have hlt4 := hget_small hgd2
            have fin : R (settleZ true H (.tup [v, diagV 0 0]) (hset H2 H.l.length (some (.cells [.lit (.int .i64 0), .lit (.int .i64 0), .lit (.string (mkS []))] (t_api_Diag N))))) := by
              have hL2 := q3.setMid (.cells [.lit (.int .i64 0), .lit (.int .i64 0), .lit (.string (mkS []))] (t_api_Diag N))
              obtain ⟨u, f1, f2⟩ := Row.frz (k := 14) q2 hL2 (mapM_self (by
                intro y hy
                have hy2 : y ∈ (l ++ [((0, [], b.length) : Tok)]).map tokA := by simpa using hy
                obtain ⟨t, _, rfl⟩ := List.mem_map.1 hy2
                exact frz_tok t))
              rw [settleZ_frz (u := .tup [u, diagV 0 0]) hL2.keeps (by rw [frz_tup, mapM_cons', mapM_cons', f1, frz_diag]; simp), hR]
              have hr : lexR b = (l ++ [(0, [], b.length)], 0, 0) := by
                unfold lexR
                rw [if_neg hlong, if_neg (by simpa using hst), ht, hab]
              exact ⟨u, by rw [hr], by rw [hr]; simpa using f2⟩
            simp [L_lexer_Lex_1, K_lexer_Lex_1, h3, h5, h6, h7, hlt', aload, astore, setFrom, hgd, hgd2, hlt4, q0, q1, -Int.natCast_add]
            exact fin
      · have hb0 : badOf b = stopOf b := by simp [badOf, hst]
        have hb1 : 0 ≤ badOf b := by rw [hb0]; omega
        simp [C_lexer_Lex, hlen, hlong', hbad, hb1, aload, astore, setFrom]
        rw [hb0]
        exact fail 2 (stopOf b) _ _ (hL0.set _) (by simp [lexR, hlong, hst])
  obtain ⟨r, e, hr⟩ := key
  rw [hR] at hr
  obtain ⟨u, rfl, hu⟩ := hr
  exact ⟨u, e, hu⟩
end
end Go.Proofs.Eng
/- The reference of chapter 3, run by the engine: signs, names. -/
set_option linter.unusedVariables false
set_option linter.unusedSimpArgs false
set_option maxRecDepth 100000
namespace Go.Proofs.Eng
open Go
section
variable {Γ : Sums} {A : Tab} {N : Nat → Nat}
structure Ref03S (Γ : Sums) (A : Tab) (N : Nat → Nat) : Prop where
  low : Has Γ A (f_ref03_low N) (C_ref03_low N)
  high : Has Γ A (f_ref03_high N) (C_ref03_high N)
  digit : Has Γ A (f_ref03_digit N) (C_ref03_digit N)
  hex : Has Γ A (f_ref03_hex N) (C_ref03_hex N)
  name : Has Γ A (f_ref03_name N) (C_ref03_name N)
  number : Has Γ A (f_ref03_number N) (C_ref03_number N)
  str : Has Γ A (f_ref03_str N) (C_ref03_str N)
  sign : Has Γ A (f_ref03_sign N) (C_ref03_sign N)
  isWord : Has Γ A (f_ref03_IsWord N) (C_ref03_IsWord N)

theorem ref03_low_call (h : Ref03S Γ A N) (c : UInt8) (H : Hp) : (lim Γ A).call (f_ref03_low N) [avByte c] H = some (avBool (isLow c), none) := by
  apply h.low.call (by rfl)
  unfold isLow
  by_cases h1 : 97 ≤ c.toNat
  · have h1' : (97 : Int) ≤ c.toNat := by omega
    by_cases h2 : c.toNat ≤ 122
    · have h2' : (c.toNat : Int) ≤ 122 := by omega
      simp [C_ref03_low, avByte, h1, h1', h2, h2']
    · have h2' : ¬ (c.toNat : Int) ≤ 122 := by omega
      have h3 : ¬ c.toNat = 95 := by omega
      have h3' : ¬ (c.toNat : Int) = 95 := by omega
      simp [C_ref03_low, avByte, h1, h1', h2, h2', h3, h3']
  · have h1' : ¬ (97 : Int) ≤ c.toNat := by omega
    by_cases h3 : c.toNat = 95
    · have h3' : (c.toNat : Int) = 95 := by omega
      simp [C_ref03_low, avByte, h3, h3']
    · have h3' : ¬ (c.toNat : Int) = 95 := by omega
      simp [C_ref03_low, avByte, h1, h1', h3, h3']
theorem ref03_digit_call (h : Ref03S Γ A N) (c : UInt8) (H : Hp) : (lim Γ A).call (f_ref03_digit N) [avByte c] H = some (avBool (isDigit c), none) := by
  apply h.digit.call (by rfl)
  unfold isDigit
  by_cases h1 : 48 ≤ c.toNat
  · have h1' : (48 : Int) ≤ c.toNat := by omega
    by_cases h2 : c.toNat ≤ 57
    · have h2' : (c.toNat : Int) ≤ 57 := by omega
      simp [C_ref03_digit, avByte, h1, h1', h2, h2']
    · have h2' : ¬ (c.toNat : Int) ≤ 57 := by omega
      simp [C_ref03_digit, avByte, h1, h1', h2, h2']
  · have h1' : ¬ (48 : Int) ≤ c.toNat := by omega
    simp [C_ref03_digit, avByte, h1, h1']
theorem ref03_high_call (h : Ref03S Γ A N) (c : UInt8) (H : Hp) : (lim Γ A).call (f_ref03_high N) [avByte c] H = some (avBool (isHigh c), none) := by
  apply h.high.call (by rfl)
  unfold isHigh
  by_cases h1 : 65 ≤ c.toNat
  · have h1' : (65 : Int) ≤ c.toNat := by omega
    by_cases h2 : c.toNat ≤ 90
    · have h2' : (c.toNat : Int) ≤ 90 := by omega
      simp [C_ref03_high, avByte, h1, h1', h2, h2']
    · have h2' : ¬ (c.toNat : Int) ≤ 90 := by omega
      simp [C_ref03_high, avByte, h1, h1', h2, h2']
  · have h1' : ¬ (65 : Int) ≤ c.toNat := by omega
    simp [C_ref03_high, avByte, h1, h1']
theorem ref03_hex_call (h : Ref03S Γ A N) (c : UInt8) (H : Hp) : (lim Γ A).call (f_ref03_hex N) [avByte c] H = some (avBool (isHex c), none) := by
  apply h.hex.call (by rfl)
  have hd := ref03_digit_call h c
  unfold isHex
  cases h0 : isDigit c <;> rw [h0] at hd
  · by_cases h1 : 97 ≤ c.toNat
    · have h1' : (97 : Int) ≤ c.toNat := by omega
      by_cases h2 : c.toNat ≤ 102
      · have h2' : (c.toNat : Int) ≤ 102 := by omega
        simp [C_ref03_hex, hd, h1, h1', h2, h2']
      · have h2' : ¬ (c.toNat : Int) ≤ 102 := by omega
        simp [C_ref03_hex, hd, h1, h1', h2, h2']
    · have h1' : ¬ (97 : Int) ≤ c.toNat := by omega
      simp [C_ref03_hex, hd, h1, h1']
  · simp [C_ref03_hex, hd]

/-- How many of the first bytes are a name's. -/
def nameB (s : List UInt8) : Nat := match s with | [] => 0 | c :: r => if isLow c = true then 1 + runB isInName r else 0
theorem ref03_name_call (h : Ref03S Γ A N) {x : AV} {b : List UInt8} (H : Hp) (hx : VBytes H x b) (hl : b.length < 2 ^ 36) (a : Nat) (ha : a ≤ b.length) :
    (lim Γ A).call (f_ref03_name N) [x, avInt .i64 a] H = some (avInt .i64 (nameB (b.drop a)), none) := by
  apply h.name.call (by rfl)
  have hlen := Vw.len hx
  rw [List.length_map] at hlen
  have hx0 : VBytes { l := H.l, d := none } x b := hx.dd none
  by_cases hlt : a < b.length
  · have hlt' : ¬ (b.length : Int) ≤ a := by omega
    obtain ⟨p, hp1, hp2⟩ := VBytes.at' hx0 (k := .i64) (i := (a : Int)) (by omega) (by simpa using hlt)
    simp only [Int.toNat_natCast] at hp1 hp2
    have hd : b.drop a = b[a] :: b.drop (a + 1) := List.drop_eq_getElem_cons hlt
    have hlow := ref03_low_call h b[a]
    rw [hd]
    generalize b[a] = c at *
    cases h1 : isLow c <;> rw [h1] at hlow
    · rw [show nameB (c :: b.drop (a + 1)) = 0 from by simp [nameB, h1]]
      simp [C_ref03_name, hlen, hlt', hp1, hp2, hlow]
    · rw [show nameB (c :: b.drop (a + 1)) = 1 + runB isInName (b.drop (a + 1)) from by simp [nameB, h1]]
      simp [C_ref03_name, hlen, hlt', hp1, hp2, hlow, -Int.natCast_add]
      refine wp_round (fun k ρ H' => H' = { l := H.l, d := none } ∧ ∃ i : Nat, ρ 0 = x ∧ ρ 1 = avInt .i64 a ∧ ρ 5 = avInt .i64 i ∧ a + i ≤ b.length ∧ 1 + runB isInName (b.drop (a + 1)) = i + runB isInName (b.drop (a + i)) ∧ k = b.length - (a + i)) (n := b.length - (a + 1)) ⟨rfl, 1, rfl, rfl, rfl, by omega, rfl, rfl⟩ ?_
      rintro k ρ H' ⟨rfl, i, r0, r1, r5, hi, hr, rfl⟩
      have hw : IntKind.wrap .i64 ((a : Int) + (i : Int)) = ((a + i : Nat) : Int) := by rw [wrap64 (by omega) (by omega)]; omega
      by_cases hil : a + i < b.length
      · have hil' : ((a + i : Nat) : Int) < b.length := by omega
        obtain ⟨q, hq1, hq2⟩ := VBytes.at' hx0 (k := .i64) (i := ((a + i : Nat) : Int)) (by omega) (by rw [Int.toNat_natCast]; exact hil)
        simp only [Int.toNat_natCast] at hq1 hq2
        have hd2 : b.drop (a + i) = b[a + i] :: b.drop (a + i + 1) := List.drop_eq_getElem_cons hil
        have hlow2 := ref03_low_call h b[a + i]
        have hdig2 := ref03_digit_call h b[a + i]
        rw [hd2] at hr
        generalize b[a + i] = e at *
        have hw2 : IntKind.wrap .i64 ((i : Int) + 1) = ((i + 1 : Nat) : Int) := by rw [wrap64 (by omega) (by omega)]; omega
        have go : isInName e = true → 1 + runB isInName (b.drop (a + 1)) = i + 1 + runB isInName (b.drop (a + (i + 1))) := by
          intro he
          rw [hr, ← Nat.add_assoc]
          simp [runB, he]
          omega
        cases h2 : isLow e <;> rw [h2] at hlow2
        · cases h3 : isDigit e <;> rw [h3] at hdig2
          · have : runB isInName (e :: b.drop (a + i + 1)) = 0 := runB_stop (by simp [isInName, h2, h3])
            rw [this] at hr
            simp [L_ref03_name_1, K_ref03_name_1, r0, r1, r5, hw, hlen, hil', hq1, hq2, hlow2, hdig2, hr, -Int.natCast_add]
          · simp [L_ref03_name_1, r0, r1, r5, hw, hw2, hlen, hil', hq1, hq2, hlow2, hdig2, -Int.natCast_add]
            exact ⟨b.length - (a + (i + 1)), by omega, i + 1, rfl, by omega, go (by simp [isInName, h3]), rfl⟩
        · simp [L_ref03_name_1, r0, r1, r5, hw, hw2, hlen, hil', hq1, hq2, hlow2, -Int.natCast_add]
          exact ⟨b.length - (a + (i + 1)), by omega, i + 1, rfl, by omega, go (by simp [isInName, h2]), rfl⟩
      · have hil' : ¬ ((a + i : Nat) : Int) < b.length := by omega
        rw [show b.drop (a + i) = [] from List.drop_of_length_le (by omega)] at hr
        have hr' : 1 + runB isInName (b.drop (a + 1)) = i := by rw [hr]; rfl
        simp [L_ref03_name_1, K_ref03_name_1, r0, r1, r5, hw, hlen, hil', hr', -Int.natCast_add]
  · have hlt' : (b.length : Int) ≤ a := by omega
    rw [List.drop_of_length_le (by omega)]
    simp [C_ref03_name, hlen, hlt', nameB]
end
end Go.Proofs.Eng
