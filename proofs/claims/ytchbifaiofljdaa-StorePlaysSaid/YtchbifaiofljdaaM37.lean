import Derived.Test.YtchbifaiofljdaaEngAK
import Derived.Test.YtchbifaiofljdaaM34
import Derived.Test.YtchbifaiofljdaaEngAH
/- Two maps with texts for keys, held against each other: one of rows of bytes, one of texts. -/
set_option linter.unusedVariables false
set_option linter.unusedSimpArgs false
set_option maxRecDepth 100000
namespace Go.Proofs.Eng
open Go

def kpos (k : List UInt8) : List (List UInt8) → Option Nat
  | [] => none
  | x :: r => if k = x then some 0 else (kpos k r).map (· + 1)
theorem kpos_lt {k : List UInt8} : ∀ {l : List (List UInt8)} {i : Nat}, kpos k l = some i → l[i]? = some k
  | [], i, h => by simp [kpos] at h
  | x :: r, i, h => by
    simp only [kpos] at h
    split at h
    · rename_i e; simp only [Option.some.injEq] at h; subst h; subst e; rfl
    · obtain ⟨j, hj, rfl⟩ := Option.map_eq_some_iff.1 h
      simpa using kpos_lt hj
theorem kpos_none {k : List UInt8} : ∀ {l : List (List UInt8)}, kpos k l = none ↔ k ∉ l
  | [] => by simp [kpos]
  | x :: r => by
    simp only [kpos]
    split
    · rename_i e; simp [e]
    · rename_i e
      simp only [Option.map_eq_none_iff, kpos_none (l := r), List.mem_cons, e, false_or]
theorem vFind_kpos (k : List UInt8) : ∀ l : List (List UInt8 × AV), vFind k l = (kpos k (l.map Prod.fst)).bind fun i => (l[i]?).map fun e => (i, e.2)
  | [] => rfl
  | x :: r => by
    simp only [vFind, List.map_cons, kpos]
    split
    · rename_i e; rfl
    · rw [vFind_kpos k r]
      cases kpos k (r.map Prod.fst) with
      | none => rfl
      | some i => simp only [Option.bind_some, Option.map_some, List.getElem?_cons_succ]; cases r[i]? <;> rfl

/-- A model's map: texts by texts. -/
abbrev SM := List (List UInt8 × List UInt8)
def sA (sm : SM) : List (List UInt8 × AV) := sm.map fun x => (x.1, avStr x.2)
def sKeys (sm : SM) : List (List UInt8) := sm.map Prod.fst
def sFind (k : List UInt8) (sm : SM) : Option (List UInt8) := (kpos k (sKeys sm)).bind fun i => (sm[i]?).map Prod.snd
def sPut (k b : List UInt8) (sm : SM) : SM := match kpos k (sKeys sm) with
  | some i => sm.modify i fun _ => (k, b)
  | none => sm ++ [(k, b)]
def sDel (k : List UInt8) (sm : SM) : SM := match kpos k (sKeys sm) with
  | some i => sm.eraseIdx i
  | none => sm
theorem sA_keys (sm : SM) : (sA sm).map Prod.fst = sKeys sm := by simp [sA, sKeys, Function.comp_def]
theorem sA_len (sm : SM) : (sA sm).length = sm.length := by simp [sA]
theorem vFind_sA (k : List UInt8) (sm : SM) : (vFind k (sA sm)).map Prod.snd = (sFind k sm).map avStr := by
  rw [vFind_kpos, sA_keys]
  unfold sFind
  cases kpos k (sKeys sm) with
  | none => rfl
  | some i => simp only [Option.bind_some, sA, List.getElem?_map]; cases sm[i]? <;> rfl
theorem kpos_some {k : List UInt8} {sm : SM} {i : Nat} (h : kpos k (sKeys sm) = some i) : ∃ b, sm[i]? = some (k, b) ∧ i < sm.length := by
  have := kpos_lt h
  simp only [sKeys, List.getElem?_map, Option.map_eq_some_iff] at this
  obtain ⟨⟨a, b⟩, h1, rfl⟩ := this
  exact ⟨b, h1, (List.getElem?_eq_some_iff.1 h1).1⟩
theorem sFind_none {k : List UInt8} {sm : SM} : sFind k sm = none ↔ k ∉ sKeys sm := by
  rw [← kpos_none]
  unfold sFind
  cases h : kpos k (sKeys sm) with
  | none => simp
  | some i => obtain ⟨b, hb, _⟩ := kpos_some h; simp [hb]
theorem vFind_sA_isSome (k : List UInt8) (sm : SM) : (vFind k (sA sm)).isSome = (sFind k sm).isSome := by
  have := congrArg Option.isSome (vFind_sA k sm)
  simpa using this
theorem vFind_sA_get (k : List UInt8) (sm : SM) (z : AV) : ((vFind k (sA sm)).map Prod.snd).getD z = ((sFind k sm).map avStr).getD z := by rw [vFind_sA]
theorem sA_put (k b : List UInt8) (sm : SM) : vPut k (avStr b) (sA sm) = sA (sPut k b sm) := by
  unfold vPut sPut
  rw [vFind_kpos, sA_keys]
  cases h : kpos k (sKeys sm) with
  | none => simp [sA]
  | some i =>
    obtain ⟨c, hc, _⟩ := kpos_some h
    simp only [Option.bind_some, sA, List.getElem?_map, hc, Option.map_some]
    apply List.ext_getElem?
    intro j
    simp only [List.getElem?_modify, List.getElem?_map]
    cases sm[j]? with
    | none => rfl
    | some y => by_cases hij : i = j <;> simp [hij]
theorem sA_del (k : List UInt8) (sm : SM) : vDel k (sA sm) = sA (sDel k sm) := by
  unfold vDel sDel
  rw [vFind_kpos, sA_keys]
  cases h : kpos k (sKeys sm) with
  | none => simp [sA]
  | some i =>
    obtain ⟨c, hc, _⟩ := kpos_some h
    simp only [Option.bind_some, sA, List.getElem?_map, hc, Option.map_some]
    apply List.ext_getElem?
    intro j
    simp only [List.getElem?_eraseIdx, List.getElem?_map]
    split <;> rfl
theorem sKeys_put {k b : List UInt8} {sm : SM} : sKeys (sPut k b sm) = if k ∈ sKeys sm then sKeys sm else sKeys sm ++ [k] := by
  unfold sPut
  cases h : kpos k (sKeys sm) with
  | none => rw [if_neg (kpos_none.1 h)]; simp [sKeys]
  | some i =>
    obtain ⟨c, hc, _⟩ := kpos_some h
    have hm : k ∈ sKeys sm := List.mem_map.2 ⟨(k, c), List.mem_of_getElem? hc, rfl⟩
    rw [if_pos hm]
    apply List.ext_getElem?
    intro j
    simp only [sKeys, List.getElem?_map, List.getElem?_modify]
    by_cases hij : i = j
    · subst hij; simp [hc]
    · simp only [hij, if_false]; cases sm[j]? <;> rfl
theorem eraseIdx_perm' {α : Type} : ∀ (l : List α) (i : Nat) (h : i < l.length), (l[i] :: l.eraseIdx i).Perm l
  | [], i, h => by simp at h
  | x :: r, 0, h => by simp
  | x :: r, i + 1, h => by
    have := eraseIdx_perm' r i (by simpa using h)
    simp only [List.getElem_cons_succ, List.eraseIdx_cons_succ]
    exact (List.Perm.swap _ _ _).trans (this.cons x)
theorem sKeys_del {k : List UInt8} {sm : SM} (hn : (sKeys sm).Nodup) : (sKeys (sDel k sm)).Nodup ∧ (∀ x, x ∈ sKeys (sDel k sm) ↔ x ∈ sKeys sm ∧ x ≠ k) := by
  unfold sDel
  cases h : kpos k (sKeys sm) with
  | none => exact ⟨hn, fun x => ⟨fun hx => ⟨hx, fun e => kpos_none.1 h (e ▸ hx)⟩, fun hx => hx.1⟩⟩
  | some i =>
    have he : sKeys (sm.eraseIdx i) = (sKeys sm).eraseIdx i := by
      apply List.ext_getElem?
      intro j
      simp only [sKeys, List.getElem?_map, List.getElem?_eraseIdx]
      split <;> rfl
    have hk := kpos_lt h
    have hlt := (List.getElem?_eq_some_iff.1 hk).1
    have hkk := (List.getElem?_eq_some_iff.1 hk).2
    have hp := eraseIdx_perm' _ _ hlt
    rw [hkk] at hp
    have hn2 := (hp.nodup_iff).2 hn
    rw [List.nodup_cons] at hn2
    simp only [he]
    refine ⟨hn2.2, fun x => ?_⟩
    have := hp.mem_iff (a := x)
    rw [← this]
    constructor
    · intro hx; exact ⟨List.mem_cons_of_mem _ hx, fun e => hn2.1 (e ▸ hx)⟩
    · rintro ⟨hx, hne⟩
      rcases List.mem_cons.1 hx with e | hx
      · exact absurd e hne
      · exact hx
theorem sKeys_put_nodup {k b : List UInt8} {sm : SM} (hn : (sKeys sm).Nodup) : (sKeys (sPut k b sm)).Nodup := by
  rw [sKeys_put]
  split
  · exact hn
  · rename_i h
    rw [List.nodup_append]
    exact ⟨hn, by simp, by rintro a ha c hc rfl; simp at hc; exact h (hc ▸ ha)⟩
theorem sPut_len {k b : List UInt8} {sm : SM} : (sPut k b sm).length ≤ sm.length + 1 := by
  unfold sPut; split <;> simp
theorem sDel_len {k : List UInt8} {sm : SM} : (sDel k sm).length ≤ sm.length := by
  unfold sDel; split
  · exact List.length_eraseIdx_le _ _
  · exact Nat.le_refl _
theorem sPut_mem {k b : List UInt8} {sm : SM} {x} (h : x ∈ sPut k b sm) : x = (k, b) ∨ x ∈ sm := by
  unfold sPut at h
  split at h
  · rename_i i' hi'
    obtain ⟨j, hj⟩ := List.mem_iff_getElem?.1 h
    rw [List.getElem?_modify] at hj
    cases hs : sm[j]? with
    | none => rw [hs] at hj; simp at hj
    | some y =>
      rw [hs] at hj
      by_cases hij : i' = j
      · simp [hij] at hj; exact .inl hj.symm
      · simp [hij] at hj; exact .inr (hj ▸ List.mem_of_getElem? hs)
  · rcases List.mem_append.1 h with h | h
    · exact .inr h
    · exact .inl (by simpa using h)
theorem sDel_mem {k : List UInt8} {sm : SM} {x} (h : x ∈ sDel k sm) : x ∈ sm := by
  unfold sDel at h
  split at h
  · exact (List.eraseIdx_sublist _ _).subset h
  · exact h

/-- A map of rows of bytes, laid in a heap, has the texts of a model's map. -/
def R2 (H : Hp) (l : List (List UInt8 × AV)) (sm : SM) : Prop := l.map Prod.fst = sKeys sm ∧ ∀ (i : Nat) (x : List UInt8 × AV) (y : List UInt8 × List UInt8), l[i]? = some x → sm[i]? = some y → VBytes H x.2 y.2
namespace R2
variable {H H' : Hp} {l : List (List UInt8 × AV)} {sm : SM} {k b : List UInt8} {c : AV}
theorem nil : R2 H [] [] := ⟨rfl, by simp⟩
theorem len (h : R2 H l sm) : l.length = sm.length := by
  have := congrArg List.length h.1
  simpa [sKeys] using this
theorem keep (h : R2 H l sm) (k : ∀ x es, VBytes H x es → VBytes H' x es) : R2 H' l sm := ⟨h.1, fun i x y hx hy => k _ _ (h.2 i x y hx hy)⟩
theorem isSome (h : R2 H l sm) (k : List UInt8) : (vFind k l).isSome = (sFind k sm).isSome := by
  rw [vFind_kpos, h.1]
  unfold sFind
  cases hk : kpos k (sKeys sm) with
  | none => rfl
  | some i =>
    obtain ⟨c, hc, hi⟩ := kpos_some hk
    have hi2 : i < l.length := by rw [h.len]; exact hi
    simp [hc, List.getElem?_eq_getElem hi2]
theorem get (h : R2 H l sm) (k : List UInt8) : VBytes H (((vFind k l).map Prod.snd).getD avNilS) ((sFind k sm).getD []) := by
  rw [vFind_kpos, h.1]
  unfold sFind
  cases hk : kpos k (sKeys sm) with
  | none => exact .inl (.inl ⟨rfl, rfl⟩)
  | some i =>
    obtain ⟨c, hc, hi⟩ := kpos_some hk
    have hi2 : i < l.length := by rw [h.len]; exact hi
    have := h.2 i _ _ (List.getElem?_eq_getElem hi2) hc
    simpa [hc, List.getElem?_eq_getElem hi2] using this
theorem put (h : R2 H l sm) (hc : VBytes H c b) : R2 H (vPut k c l) (sPut k b sm) := by
  unfold vPut sPut
  rw [vFind_kpos, h.1]
  cases hk : kpos k (sKeys sm) with
  | none =>
    simp only [Option.bind_none]
    refine ⟨by simp [h.1, sKeys], fun i x y hx hy => ?_⟩
    by_cases hi : i < l.length
    · rw [List.getElem?_append_left hi] at hx
      rw [List.getElem?_append_left (by rw [← h.len]; exact hi)] at hy
      exact h.2 i x y hx hy
    · rw [List.getElem?_append_right (by omega)] at hx
      rw [List.getElem?_append_right (by rw [← h.len]; omega), ← h.len] at hy
      have h0 : i - l.length = 0 := by have := (List.getElem?_eq_some_iff.1 hx).1; simp at this; omega
      rw [h0] at hx hy
      simp at hx hy
      subst hx; subst hy; exact hc
  | some i =>
    obtain ⟨c', hc', hi⟩ := kpos_some hk
    have hi2 : i < l.length := by rw [h.len]; exact hi
    simp only [Option.bind_some, List.getElem?_eq_getElem hi2, Option.map_some]
    refine ⟨?_, fun j x y hx hy => ?_⟩
    · apply List.ext_getElem?
      intro j
      have hj : (l.map Prod.fst)[j]? = (sKeys sm)[j]? := by rw [h.1]
      simp only [sKeys, List.getElem?_map, List.getElem?_modify] at hj ⊢
      by_cases hij : i = j
      · subst hij; simp [List.getElem?_eq_getElem hi2, hc']
      · simp only [hij, if_false]
        cases h1 : l[j]? <;> cases h2 : sm[j]? <;> simp [h1, h2] at hj ⊢
        exact hj
    · rw [List.getElem?_modify] at hx hy
      cases h1 : l[j]? with
      | none => rw [h1] at hx; simp at hx
      | some u =>
        cases h2 : sm[j]? with
        | none => rw [h2] at hy; simp at hy
        | some v =>
          rw [h1] at hx; rw [h2] at hy
          by_cases hij : i = j
          · simp [hij] at hx hy; subst hx; subst hy; exact hc
          · simp [hij] at hx hy
            subst hx; subst hy; exact h.2 j u v h1 h2
theorem del (h : R2 H l sm) : R2 H (vDel k l) (sDel k sm) := by
  unfold vDel sDel
  rw [vFind_kpos, h.1]
  cases hk : kpos k (sKeys sm) with
  | none => exact h
  | some i =>
    obtain ⟨c', hc', hi⟩ := kpos_some hk
    have hi2 : i < l.length := by rw [h.len]; exact hi
    simp only [Option.bind_some, List.getElem?_eq_getElem hi2, Option.map_some]
    refine ⟨?_, fun j x y hx hy => ?_⟩
    · apply List.ext_getElem?
      intro j
      have hj : ∀ j : Nat, (l.map Prod.fst)[j]? = (sKeys sm)[j]? := fun j => by rw [h.1]
      simp only [sKeys, List.getElem?_map] at hj
      simp only [sKeys, List.getElem?_map, List.getElem?_eraseIdx]
      split
      · exact hj j
      · exact hj (j + 1)
    · rw [List.getElem?_eraseIdx] at hx hy
      split at hx
      · rename_i hlt; rw [if_pos hlt] at hy; exact h.2 j x y hx hy
      · rename_i hlt; rw [if_neg hlt] at hy; exact h.2 _ x y hx hy
end R2

/-! ### Sorted keys -/
theorem keysB_of : ∀ {es : List (Value × AV × Nat)}, SKeys es → (∀ e ∈ KV es, e.1.length ≤ maxLen) → keysB es = some ((KV es).map Prod.fst)
  | [], _, _ => rfl
  | e :: r, h, hl => by
    obtain ⟨s, hs⟩ := h e (by simp)
    have ih := keysB_of (es := r) (fun x hx => h x (by simp [hx])) (fun x hx => hl x (by simp only [KV, List.map_cons]; exact List.mem_cons_of_mem _ hx))
    have h1 := hl (keyB e.1, e.2.1) (by simp [KV])
    simp only [hs, keyB] at h1
    have hs2 : s.size ≤ maxLen := by rw [← bl_length]; exact h1
    simp only [keysB, hs, if_pos hs2, ih, KV, List.map_cons, keyB, Option.map_some]
theorem sortB_strict {l : List (List UInt8)} (h : l.Nodup) : (sortB l).Pairwise (fun a b => a < b) := by
  have hn := ((sortB_perm l).nodup_iff).2 h
  have hs := sortB_sorted l
  rw [List.Nodup] at hn
  exact (List.pairwise_and_iff.2 ⟨hs, hn⟩).imp fun ⟨h1, h2⟩ => by
    exact Decidable.byContradiction fun h => h2 (List.le_antisymm h1 (List.not_lt.1 h))
end Go.Proofs.Eng
/- Templates of functions, as the engine takes them; numbers of functions and types by names. Printed by tm.py. -/
set_option linter.unusedVariables false
set_option maxRecDepth 100000
namespace Go.Proofs.Eng
open Go

/-- maps.Keys[map[string][]byte,string,[]byte] -/
def C_maps_Keys_map_string_sl_byte_string_sl_byte (N : Nat → Nat) : AFunc := ⟨4, [.inl 2],
 .seq (
  .ops [⟨(some 1), .box (t_map_string_sl_uint8 N) (.t 0), none⟩, ⟨(some 2), .mov (.c (.lit .nilFunc)), none⟩]) (
 .seq (
  .ops [⟨(some 3), .mkfn (f_maps_Keys_map_string_sl_byte_string_sl_byte_1 N) [] [(.t 1)], none⟩, ⟨(some 2), .mov (.t 3), none⟩]) (
 .ret)), false⟩

end Go.Proofs.Eng
/- The store's functions, second part: Rename, Text, Len, Turn, All. -/
set_option linter.unusedVariables false
set_option linter.unusedSimpArgs false
set_option maxRecDepth 100000
namespace Go.Proofs.Eng
open Go
section
variable {Γ : Sums} {A : Tab} {N : Nat → Nat}

structure StoreS2 (Γ : Sums) (A : Tab) (N : Nat → Nat) : Prop where
  ren : Has Γ A (f_p_store_Store_Rename N) (C_p_store_Store_Rename N)
  text : Has Γ A (f_p_store_Store_Text N) (C_p_store_Store_Text N)
  len : Has Γ A (f_p_store_Store_Len N) (C_p_store_Store_Len N)
  turn : Has Γ A (f_p_store_Store_Turn N) (C_p_store_Store_Turn N)
  all : Has Γ A (f_p_store_Store_All N) (C_p_store_Store_All N)
  all1 : Has Γ A (f_p_store_Store_All_1 N) (C_p_store_Store_All_1 N)
  keys : Has Γ A (f_maps_Keys_map_string_sl_byte_string_sl_byte N) (C_maps_Keys_map_string_sl_byte_string_sl_byte N)
  sorted : ∀ (H : Hp) (id mid : Nat) (es : List (Value × AV × Nat)) (clk : Nat) (t : TypeId), hget H id = some (.cells [.map mid] t) → hget H mid = some (.map es clk) → SKeys es → (∀ e ∈ KV es, e.1.length ≤ maxLen) → es.length < 2 ^ 36 →
    (lim Γ A).call (f_slices_Sorted_string N) [.fn (f_maps_Keys_map_string_sl_byte_string_sl_byte_1 N) [] [.ptr id 0]] H = some (sortedR H (t_string N) ((KV es).map Prod.fst))

def renE (a b : List UInt8) (l : List (List UInt8 × AV)) : Nat :=
  if (vFind a l).isSome = false then 13 else if !isNameB b then 7 else if (vFind b l).isSome = true then 8 else 0

theorem Rename_err (h : StoreS Γ A N) (h2 : StoreS2 Γ A N) {H : Hp} {t : TypeId} {p m turn : Nat} {l : List (List UInt8 × AV)} (hs : St H t p m turn l) {a b : List UInt8} (hl : b.length < 2 ^ 40) (he : renE a b l ≠ 0) :
    (lim Γ A).call (f_p_store_Store_Rename N) [.ptr p 0, avStr a, avStr b] H = some (avInt .i64 (renE a b l), none) := by
  have e1 := fun H => lexer_IsName_call h.lex b hl H
  obtain ⟨es, clk, m1, m2, m3⟩ := hs.mp
  have hm : hget { l := H.l, d := none } m = some (.map es clk) := m1
  have q1 : hget { l := H.l, d := none } p = some (.cells [.map m, avInt .i64 turn] t) := hs.cell
  have q2 := fun s => aLookup_str (s := mkS s) (z := .lit (.slice none 0 0)) hm m2
  simp only [m3] at q2
  apply h2.ren.call (by rfl)
  unfold renE at he ⊢
  cases c1 : (vFind a l).isSome
  · simp [C_p_store_Store_Rename, q1, q2, e1, c1]
  · cases c2 : isNameB b
    · simp [C_p_store_Store_Rename, q1, q2, e1, c1, c2]
    · cases c3 : (vFind b l).isSome
      · simp [c1, c2, c3] at he
      · simp [C_p_store_Store_Rename, q1, q2, e1, c1, c2, c3]

theorem Rename_ok (h : StoreS Γ A N) (h2 : StoreS2 Γ A N) {H : Hp} {t : TypeId} {p m turn : Nat} {l : List (List UInt8 × AV)} (hs : St H t p m turn l) {a b : List UInt8} (hl : b.length < 2 ^ 40) (he : renE a b l = 0) (ht : turn < 2 ^ 60) :
    ∃ g, (lim Γ A).call (f_p_store_Store_Rename N) [.ptr p 0, avStr a, avStr b] H = some (avInt .i64 0, some g) ∧ St g t p m (turn + 1) (vPut b (((vFind a l).map Prod.snd).getD avNilS) (vDel a l)) ∧ Mut H g [p, m] ∧ g.l.length = H.l.length := by
  have hpm := hs.ne
  have e1 := fun H => lexer_IsName_call h.lex b hl H
  obtain ⟨es, clk, m1, m2, m3⟩ := hs.mp
  have hm : hget { l := H.l, d := none } m = some (.map es clk) := m1
  have q1 : hget { l := H.l, d := none } p = some (.cells [.map m, avInt .i64 turn] t) := hs.cell
  have q2 := fun s => aLookup_str (s := mkS s) (z := .lit (.slice none 0 0)) hm m2
  simp only [m3] at q2
  obtain ⟨es', u1, u2, u3⟩ := aDelete_str (s := mkS a) hm m2
  have hlt := hget_lt hs.cell
  have hltm := hget_lt m1
  have hm1 : hget (hset { l := H.l, d := none } m (some (.map es' clk))) m = some (.map es' clk) := by
    rw [hget_hset, if_pos rfl, if_pos (by simpa using hltm)]
  obtain ⟨es'', clk'', v1, v2, v3⟩ := aMapupd_str (s := mkS b) (v := ((vFind a l).map Prod.snd).getD avNilS) hm1 u2
  have hgp : hget (hset { l := H.l, d := none } m (some (.map es' clk))) p = some (.cells [.map m, avInt .i64 turn] t) := by
    rw [hget_hset, if_neg hpm]; exact q1
  have hgp2 : hget (hset (hset { l := H.l, d := none } m (some (.map es' clk))) m (some (.map es'' clk''))) p = some (.cells [.map m, avInt .i64 turn] t) := by
    rw [hget_hset, if_neg hpm]; exact hgp
  have hw : IntKind.wrap .i64 ((turn : Int) + 1) = ((turn + 1 : Nat) : Int) := by rw [wrap64 (by omega) (by omega)]; omega
  obtain ⟨G, hG⟩ : ∃ G, G = hset (hset (hset { l := H.l, d := none } m (some (.map es' clk))) m (some (.map es'' clk''))) p (some (.cells [.map m, avInt .i64 ((turn + 1 : Nat) : Int)] t)) := ⟨_, rfl⟩
  have hmu : Mut { l := H.l, d := none } G [p, m] := by
    rw [hG]
    exact (((Mut.refl _ [p, m]).set (i := m) (.inl (by simp))).set (i := m) (.inl (by simp))).set (i := p) (.inl (by simp))
  obtain ⟨R, hR⟩ : ∃ R : AV × Option Hp → Prop, R = fun r => ∃ g, r = (avInt .i64 0, some g) ∧ St g t p m (turn + 1) (vPut b (((vFind a l).map Prod.snd).getD avNilS) (vDel a l)) ∧ Mut H g [p, m] ∧ g.l.length = H.l.length := ⟨_, rfl⟩
  suffices ∃ r, (lim Γ A).call (f_p_store_Store_Rename N) [.ptr p 0, avStr a, avStr b] H = some r ∧ R r by
    obtain ⟨r, e, hr⟩ := this
    rw [hR] at hr
    obtain ⟨g, rfl, r1, r2⟩ := hr
    exact ⟨g, e, r1, r2⟩
  have fin : R (avInt .i64 0, some { l := G.l, d := dminO H.d G.d }) := by
    rw [hR]
    refine ⟨_, rfl, ⟨?_, es'', clk'', ?_, v2, by rw [v3, u3, m3]; rfl⟩, hmu.settled, by rw [hG]; simp⟩
    · rw [hget_l, hG, hget_hset, if_pos rfl, if_pos (by simpa using hlt)]
    · rw [hget_l, hG, hget_hset, if_neg (Ne.symm hpm), hget_hset, if_pos rfl, if_pos (by simpa using hltm)]
  have hsw : settle H (avInt .i64 0) G = (avInt .i64 0, some { l := G.l, d := dminO H.d G.d }) := by rw [hG]; exact settle_wrote (hset_wrote hlt)
  unfold renE at he
  have c1 : (vFind a l).isSome = true := by
    cases c1 : (vFind a l).isSome
    · simp [c1] at he
    · rfl
  have c2 : isNameB b = true := by
    cases c2 : isNameB b
    · simp [c1, c2] at he
    · rfl
  have c3 : (vFind b l).isSome = false := by
    cases c3 : (vFind b l).isSome
    · rfl
    · simp [c1, c2, c3] at he
  apply h2.ren.callP (by rfl)
  simp [C_p_store_Store_Rename, q1, q2, e1, c1, c2, c3, u1, v1, hgp, hgp2, hw, -hset_d, -Int.natCast_add]
  rw [← hG, hsw]
  exact fin

/-- What is handed back, when no old object was written. -/
theorem settle_new_or {H H' : Hp} {v : AV} (hm : Mut { l := H.l, d := none } H' []) : ∃ g, settle H v H' = (v, g) ∧ Mut H (g.getD H) [] ∧ ((g = none ∧ v.under H.l.length = true) ∨ (g.getD H).l = H'.l) := by
  by_cases hu : v.under H.l.length = true
  · exact ⟨none, settle_keeps (hm.keeps rfl) hu, Mut.refl _ _, .inl ⟨rfl, hu⟩⟩
  · have hu' : v.under H.l.length = false := by simpa using hu
    exact ⟨_, settle_some hu', hm.settled, .inr rfl⟩

theorem Text_call (h : StoreS Γ A N) (h2 : StoreS2 Γ A N) {H : Hp} {t : TypeId} {p m turn : Nat} {l : List (List UInt8 × AV)} (hs : St H t p m turn l) {s b : List UInt8} (hb : VBytes H (((vFind s l).map Prod.snd).getD avNilS) b) (hl : b.length < 2 ^ 36) :
    ∃ c g, (lim Γ A).call (f_p_store_Store_Text N) [.ptr p 0, avStr s] H = some (.tup [c, avBool (vFind s l).isSome], g) ∧ Mut H (g.getD H) [] ∧ VBytes (g.getD H) c b := by
  obtain ⟨es, clk, m1, m2, m3⟩ := hs.mp
  have hm : hget { l := H.l, d := none } m = some (.map es clk) := m1
  have q1 : hget { l := H.l, d := none } p = some (.cells [.map m, avInt .i64 turn] t) := hs.cell
  have q2 := aLookup_str (s := mkS s) (z := .lit (.slice none 0 0)) hm m2
  rw [m3] at q2
  obtain ⟨c, g, os, k1, k2, k3⟩ := clone_call h.clone (H := { l := H.l, d := none }) (hb.dd none) hl
  obtain ⟨g', s1, s2, s3⟩ := settle_new_or (v := .tup [c, avBool (vFind s l).isSome]) k2.wr
  refine ⟨c, g', ?_, s2, ?_⟩
  · apply h2.text.call (by rfl)
    simp [C_p_store_Store_Text, q1, q2, k1, bindH_opt, s1]
  · rcases k2.row with ⟨rfl, r2, rfl⟩ | ⟨id, rfl, rfl⟩
    · exact .inl (.inl ⟨rfl, r2⟩)
    · obtain ⟨r1, r2⟩ := k2.has _ (List.mem_singleton.2 rfl)
      rcases s3 with ⟨_, hu⟩ | s3
      · simp only [AV.under, AV.unders, Bool.and_eq_true, decide_eq_true_eq] at hu
        have := hu.1
        simp only at r2
        omega
      · refine .inr ⟨id, 0, t_uint8 N, b.map avByte, rfl, ?_, by omega, List.take_of_length_le (by simp)⟩
        unfold hget at r1 ⊢
        rw [s3]; exact r1

theorem Len_call (h2 : StoreS2 Γ A N) {H : Hp} {t : TypeId} {p m turn : Nat} {l : List (List UInt8 × AV)} (hs : St H t p m turn l) : (lim Γ A).call (f_p_store_Store_Len N) [.ptr p 0] H = some (avInt .i64 l.length, none) := by
  obtain ⟨es, clk, m1, m2, m3⟩ := hs.mp
  have hm : hget { l := H.l, d := none } m = some (.map es clk) := m1
  have q1 : hget { l := H.l, d := none } p = some (.cells [.map m, avInt .i64 turn] t) := hs.cell
  have q3 := aLenm_map hm
  rw [m3] at q3
  apply h2.len.call (by rfl)
  simp [C_p_store_Store_Len, q1, q3]

theorem Turn_call (h2 : StoreS2 Γ A N) {H : Hp} {t : TypeId} {p m turn : Nat} {l : List (List UInt8 × AV)} (hs : St H t p m turn l) : (lim Γ A).call (f_p_store_Store_Turn N) [.ptr p 0] H = some (avInt .i64 turn, none) := by
  have q1 : hget { l := H.l, d := none } p = some (.cells [.map m, avInt .i64 turn] t) := hs.cell
  apply h2.turn.call (by rfl)
  simp [C_p_store_Store_Turn, q1]

theorem All_call (h2 : StoreS2 Γ A N) (H : Hp) (p : Nat) : (lim Γ A).call (f_p_store_Store_All N) [.ptr p 0] H = some (.fn (f_p_store_Store_All_1 N) [] [.ptr H.l.length 0], some { l := H.l ++ [some (.cells [.ptr p 0] (t_p_store_Store N))], d := dminO H.d none }) := by
  apply h2.all.call (by rfl)
  simp [C_p_store_Store_All]
  rw [settle_some (by simp [AV.under, AV.unders])]
  rfl
theorem Keys_call (h2 : StoreS2 Γ A N) (H : Hp) (m : Nat) : (lim Γ A).call (f_maps_Keys_map_string_sl_byte_string_sl_byte N) [.map m] H = some (.fn (f_maps_Keys_map_string_sl_byte_string_sl_byte_1 N) [] [.ptr H.l.length 0], some { l := H.l ++ [some (.cells [.map m] (t_map_string_sl_uint8 N))], d := dminO H.d none }) := by
  apply h2.keys.call (by rfl)
  simp [C_maps_Keys_map_string_sl_byte_string_sl_byte]
  rw [settle_some (by simp [AV.under, AV.unders])]
  rfl

theorem sortedR_spec (H : Hp) (tS : TypeId) (ks : List (List UInt8)) : ∃ x g, sortedR H tS ks = (x, g) ∧ Mut H (g.getD H) [] ∧ Vw (g.getD H) 1 x ((sortB ks).map avStr) ∧ (∀ id off n, x = .ra 1 id off n → H.l.length ≤ id) := by
  unfold sortedR
  cases hs : sortB ks with
  | nil => exact ⟨_, _, rfl, Mut.refl _ _, .inl (.inl ⟨rfl, rfl⟩), by simp⟩
  | cons a r =>
    refine ⟨_, _, rfl, (Mut.refl _ _).alloc _, .inr ⟨H.l.length, 0, tS, (a :: r).map avStr, by simp, by simp, by simp, List.take_of_length_le (by simp)⟩, fun id off n e => ?_⟩
    simp only [AV.ra.injEq] at e
    omega

theorem sortB_get {sm : SM} {i : Nat} (hi : i < sm.length) (hn : (sKeys sm).Nodup) : ∃ k b, (sortB (sKeys sm))[i]? = some k ∧ sFind k sm = some b ∧ (k, b) ∈ sm := by
  have hl : (sortB (sKeys sm)).length = sm.length := by rw [(sortB_perm _).length_eq]; simp [sKeys]
  have hi2 : i < (sortB (sKeys sm)).length := by omega
  refine ⟨(sortB (sKeys sm))[i], ?_⟩
  have hk := List.getElem?_eq_getElem hi2
  have hm : (sortB (sKeys sm))[i] ∈ sKeys sm := (sortB_perm _).mem_iff.1 (List.getElem_mem hi2)
  cases hf : sFind (sortB (sKeys sm))[i] sm with
  | none => exact absurd hm (sFind_none.1 hf)
  | some b =>
    refine ⟨b, hk, rfl, ?_⟩
    unfold sFind at hf
    obtain ⟨j, hj, hj2⟩ := Option.bind_eq_some_iff.1 hf
    obtain ⟨b', hb', _⟩ := kpos_some hj
    rw [hb'] at hj2
    simp only [Option.map_some, Option.some.injEq] at hj2
    subst hj2
    exact List.mem_of_getElem? hb'

theorem Mut.stSt {H H' : Hp} {t : TypeId} {p m turn : Nat} {l : List (List UInt8 × AV)} (k : Mut H H' []) (h : St H t p m turn l) : St H' t p m turn l := by
  obtain ⟨c1, es, clk, c2, c3⟩ := h
  exact ⟨k.get' c1 (by simp), es, clk, k.get' c2 (by simp), c3⟩

theorem All1_gen (h : StoreS Γ A N) (h2 : StoreS2 Γ A N) {t tc : TypeId} {p m turn c : Nat} {l : List (List UInt8 × AV)} {sm : SM} (hn : (sKeys sm).Nodup) (hb : ∀ x ∈ sm, x.1.length ≤ maxLen ∧ x.2.length < 2 ^ 36) (hl : sm.length < 2 ^ 36) :
    GenM (lim Γ A) (f_p_store_Store_All_1 N) [] [.ptr c 0] (fun H => hget H c = some (.cells [.ptr p 0] tc) ∧ St H t p m turn l ∧ R2 H l sm) sm.length
      (fun i H args => ∃ k cc b, (sortB (sKeys sm))[i]? = some k ∧ sFind k sm = some b ∧ args = [avStr k, cc] ∧ VBytes H cc b) := by
  intro lp H K Kx S0 hlp hS0 hlS hst hV h00 hstep
  suffices hsuf : ∃ r, (lim Γ A).ent (f_p_store_Store_All_1 N) ([] ++ [AV.yld lp] ++ [.ptr c 0]) H = some r ∧ ∃ H2, (r.2.getD H).l = H2.l ∧ (r.2.getD H).d = dminO H.d H2.d ∧ ((∃ S, K sm.length S H2) ∨ Kx H2) by
    obtain ⟨⟨v, g⟩, e, H2, r1, r2, r3⟩ := hsuf
    exact ⟨v, g, H2, e, r1, r2, r3⟩
  obtain ⟨R, hR⟩ : ∃ R : AV × Option Hp → Prop, R = fun r => ∃ H2, (r.2.getD H).l = H2.l ∧ (r.2.getD H).d = dminO H.d H2.d ∧ ((∃ S, K sm.length S H2) ∨ Kx H2) := ⟨_, rfl⟩
  suffices ∃ r, (lim Γ A).ent (f_p_store_Store_All_1 N) ([] ++ [AV.yld lp] ++ [.ptr c 0]) H = some r ∧ R r by simpa [hR] using this
  obtain ⟨v1, v2, v3⟩ := hV 0 S0 _ h00
  obtain ⟨es, clk, m1, m2, m3⟩ := v2.mp
  have hk1 := Keys_call h2 { l := H.l, d := none } m
  obtain ⟨Hk, hHk⟩ : ∃ Hk, Hk = halloc { l := H.l, d := none } (.cells [.map m] (t_map_string_sl_uint8 N)) := ⟨_, rfl⟩
  have hHk2 : ({ l := H.l ++ [some (.cells [.map m] (t_map_string_sl_uint8 N))], d := dminO none none } : Hp) = Hk := by rw [hHk]; rfl
  simp only [hHk2] at hk1
  have hmk : Mut { l := H.l, d := none } Hk [] := by rw [hHk]; exact (Mut.refl _ _).alloc _
  have hkv : (KV es).map Prod.fst = sKeys sm := by rw [m3]; exact v3.1
  have hkl : ∀ e ∈ KV es, e.1.length ≤ maxLen := by
    intro e he
    have : e.1 ∈ sKeys sm := by rw [← hkv]; exact List.mem_map.2 ⟨e, he, rfl⟩
    obtain ⟨x, hx, hxe⟩ := List.mem_map.1 this
    rw [← hxe]; exact (hb x hx).1
  have hel : es.length < 2 ^ 36 := by
    rw [← KV_length, m3, v3.len]; exact hl
  have hks := h2.sorted Hk H.l.length m es clk (t_map_string_sl_uint8 N) (by rw [hHk]; simp) (hmk.get' m1 (by simp)) m2 hkl hel
  rw [hkv] at hks
  obtain ⟨x, gs, x1, x2, x3, x4⟩ := sortedR_spec Hk (t_string N) (sKeys sm)
  rw [x1] at hks
  have hnl : (sortB (sKeys sm)).length = sm.length := by rw [(sortB_perm _).length_eq]; simp [sKeys]
  have hm2 : Mut { l := H.l, d := none } (gs.getD Hk) [] := hmk.trans x2 (by simp)
  have hxl : asLen x = some sm.length := by have := x3.len; simpa [hnl] using this
  have hHkl : Hk.l.length = H.l.length + 1 := by rw [hHk]; simp
  have q1 : hget { l := H.l, d := none } p = some (.cells [.map m, avInt .i64 turn] t) := v2.cell
  apply h2.all1.entP (by rfl)
  simp [C_p_store_Store_All_1, v1, q1, hk1, hks, bindH_opt, hxl]
  generalize hG : gs.getD Hk = G at *
  refine wp_round (n := sm.length) (fun q ρ H' => ∃ (i : Nat) (S : List Nat), ρ 0 = .yld lp ∧ ρ 1 = .ptr c 0 ∧ ρ 12 = x ∧ ρ 13 = avInt .i64 (sm.length : Nat) ∧ ρ 14 = avInt .i64 (i : Nat) ∧ i ≤ sm.length ∧ K i S H' ∧ Vw H' 1 x ((sortB (sKeys sm)).map avStr) ∧
    (∀ id off k, x = .ra 1 id off k → id ∉ S) ∧ ((i = 0 ∧ Mut { l := H.l, d := none } H' []) ∨ ∃ mm, H'.d = some mm ∧ mm ≤ lp) ∧ q = sm.length - i) ?_ ?_
  · refine ⟨0, S0, rfl, rfl, rfl, rfl, rfl, by omega, hst _ _ _ _ h00 hm2, x3, fun id off k e hs => ?_, .inl ⟨rfl, hm2⟩, rfl⟩
    have := x4 id off k e
    have := hS0 id hs
    omega
  · rintro q ρ H' ⟨i, S, h0, h1, h12, h13, h14, hi, hK, hx, hxS, hd, rfl⟩
    by_cases hlt : i < sm.length
    · have hlt' : (i : Int) < sm.length := by omega
      obtain ⟨w1, w2, w3⟩ := hV i S H' hK
      obtain ⟨k, b, k1, k2, k3⟩ := sortB_get hlt hn
      obtain ⟨pp, p1, p2⟩ := hx.at' (k := .i64) (i := (i : Int)) (e := avStr k) (by omega) (by simp [k1]) rfl rfl rfl
      obtain ⟨es', clk', n1, n2, n3⟩ := w2.mp
      have q2 := aLookup_str' (s := mkS k) (z := .lit (.slice none 0 0)) n1 n2
      rw [n3] at q2
      have hvb := w3.get k
      rw [k2] at hvb
      obtain ⟨cc, g, os, c1, c2, c3⟩ := clone_call h.clone hvb (hb _ k3).2
      have hcc : VBytes (g.getD H') cc b := by
        rcases c2.row with ⟨rfl, r2, rfl⟩ | ⟨id, rfl, rfl⟩
        · exact .inl (.inl ⟨rfl, r2⟩)
        · exact .inr ⟨id, 0, t_uint8 N, b.map avByte, rfl, (c2.has _ (List.mem_singleton.2 rfl)).1, by omega, List.take_of_length_le (by simp)⟩
      obtain ⟨tt, H'', S', y1, y2, y3, y4, y5, y6⟩ := hstep i S (g.getD H') [avStr k, cc] hlt (hst _ _ _ _ hK c2.wr) ⟨k, cc, b, k1, k2, rfl, hcc⟩
      have hw : IntKind.wrap .i64 ((i : Int) + 1) = ((i + 1 : Nat) : Int) := by rw [wrap64 (by omega) (by omega)]; omega
      have w2c : hget H' p = some (.cells [.map m, avInt .i64 turn] t) := w2.cell
      have hglen : H'.l.length ≤ (g.getD H').l.length := c2.wr.len
      cases tt with
      | true =>
        have hx2 : Vw H'' 1 x ((sortB (sKeys sm)).map avStr) := y3.vw (c2.wr.vw hx (by simp)) hxS
        simp [L_p_store_Store_All_1_1, h0, h1, h12, h13, h14, hlt', p1, p2, w1, w2c, q2, c1, bindH_opt, y1, hw, -Int.natCast_add]
        refine ⟨sm.length - (i + 1), by omega, i + 1, rfl, by omega, S', y5 rfl, hx2, fun id off kk e hs => ?_, .inr y2, rfl⟩
        rcases y4 id hs with hs | hs
        · exact hxS id off kk e hs
        · rcases hx with hx | ⟨id', off', e', all', e1, e2, _⟩
          · rcases hx with ⟨rfl, _⟩ | rfl <;> cases e
          · rw [e1] at e
            simp only [AV.ra.injEq] at e
            have := hget_lt e2
            omega
      | false =>
        obtain ⟨mm, d1, d2⟩ := y2
        have hsw := settle_wrote (H := H) (H' := H'') (v := .tup []) ⟨mm, d1, by omega⟩
        simp [L_p_store_Store_All_1_1, h0, h1, h12, h13, h14, hlt', p1, p2, w1, w2c, q2, c1, bindH_opt, y1, hw, -Int.natCast_add]
        rw [hsw, hR]
        exact ⟨H'', rfl, rfl, .inr (y6 rfl)⟩
    · have hi2 : i = sm.length := by omega
      subst hi2
      have hlt' : ¬ (sm.length : Int) < sm.length := by omega
      rcases hd with ⟨i0, hm0⟩ | ⟨mm, d1, d2⟩
      · have hsw := settle_keeps (H := H) (H' := H') (v := .tup []) (hm0.keeps rfl) (by simp [AV.under, AV.unders])
        simp [L_p_store_Store_All_1_1, h0, h1, h12, h13, h14]
        rw [hsw, hR]
        refine ⟨{ l := H.l, d := none }, rfl, rfl, .inl ⟨S0, ?_⟩⟩
        rw [i0]; exact h00
      · have hsw := settle_wrote (H := H) (H' := H') (v := .tup []) ⟨mm, d1, by omega⟩
        simp [L_p_store_Store_All_1_1, h0, h1, h12, h13, h14]
        rw [hsw, hR]
        exact ⟨H', rfl, rfl, .inl ⟨S, hK⟩⟩
end
end Go.Proofs.Eng
/- The laws of the store: an act, and what a store tells, by a model's map. -/
set_option linter.unusedVariables false
set_option linter.unusedSimpArgs false
set_option maxRecDepth 100000
namespace Go.Proofs.Eng
open Go
section
variable {Γ : Sums} {A : Tab} {N : Nat → Nat}

structure SInv (H : Hp) (t : TypeId) (p m mm turn : Nat) (l : List (List UInt8 × AV)) (sm : SM) : Prop where
  st : St H t p m turn l
  mp : ∃ es clk, hget H mm = some (.map es clk) ∧ SKeys es ∧ KV es = sA sm
  r2 : R2 H l sm
  ne : mm ≠ m
  nd : (sKeys sm).Nodup
  nm : ∀ x ∈ sm, x.1.length ≤ 50 ∧ x.2.length ≤ 200 ∧ isNameB x.1 = true

theorem SInv.nep {H : Hp} {t : TypeId} {p m mm turn : Nat} {l : List (List UInt8 × AV)} {sm : SM} (h : SInv H t p m mm turn l sm) : p ≠ mm := by
  rintro rfl
  obtain ⟨es, clk, h1, _⟩ := h.mp
  rw [h.st.cell] at h1
  cases h1
/-- What has bytes is none of the store's own objects. -/
theorem SInv.vb {H H' : Hp} {t : TypeId} {p m mm turn : Nat} {l : List (List UInt8 × AV)} {sm : SM} (h : SInv H t p m mm turn l sm) {W : List Nat} (hW : ∀ i ∈ W, i = p ∨ i = m ∨ i = mm) (k : Mut H H' W) {x : AV} {b : List UInt8} (hx : VBytes H x b) : VBytes H' x b := by
  rcases hx with hx | ⟨id, off, e, all, h0, h1, h2⟩
  · exact .inl hx
  · refine .inr ⟨id, off, e, all, h0, k.get' h1 (fun hw => ?_), h2⟩
    rcases hW id hw with rfl | rfl | rfl
    · rw [h.st.cell] at h1; cases h1
    · obtain ⟨es, clk, c, _⟩ := h.st.mp
      rw [c] at h1; cases h1
    · obtain ⟨es, clk, c, _⟩ := h.mp
      rw [c] at h1; cases h1
theorem SInv.still {H H' : Hp} {t : TypeId} {p m mm turn : Nat} {l : List (List UInt8 × AV)} {sm : SM} (h : SInv H t p m mm turn l sm) (k : Mut H H' []) : SInv H' t p m mm turn l sm := by
  obtain ⟨es, clk, h1, h2⟩ := h.mp
  exact ⟨k.stSt h.st, ⟨es, clk, k.get' h1 (by simp), h2⟩, h.r2.keep fun x b hx => h.vb (W := []) (by simp) k hx, h.ne, h.nd, h.nm⟩

structure StoreL (Γ : Sums) (A : Tab) (N : Nat → Nat) : Prop where
  do' : Has Γ A (f_law23_do N) (C_law23_do N)
  is' : Has Γ A (f_law23_is N) (C_law23_is N)
  name : ∀ (s : List UInt8) (H : Hp), s.length < 2 ^ 36 → (lim Γ A).call (f_ref04_Name N) [avStr s] H = some (avBool (isNameB s), none)
  le : ∀ {f : FuncId} {args : List AV} {H : Hp} {v : AV} {h : Option Hp}, (lim Γ A).call f args H = some (v, h) → HLe H (h.getD H)

theorem HLe.wrote {H H' : Hp} (h : HLe H H') {n : Nat} (k : ∃ m, H.d = some m ∧ m < n) : ∃ m, H'.d = some m ∧ m < n := by
  obtain ⟨m, h1, h2⟩ := k
  obtain ⟨m', h3, h4⟩ := h.d m h1
  exact ⟨m', h3, by omega⟩

def actV (k : Int) (a b : List UInt8) (x : AV) : AV := .agg [avInt .i64 k, avStr a, avStr b, x]
theorem Mut.weaken {H H' : Hp} {W V : List Nat} (h : Mut H H' W) (hs : ∀ i ∈ W, i ∈ V) : Mut H H' V := by
  refine ⟨h.len, fun i hi hv => h.old i hi fun hw => hv (hs i hw), fun m hm => ?_⟩
  rcases h.d m hm with h1 | h1 | ⟨i, hi, h1⟩
  · exact .inl h1
  · exact .inr (.inl h1)
  · exact .inr (.inr ⟨i, hs i hi, h1⟩)
theorem Mut.dd {H H' : Hp} {W : List Nat} (h : Mut { l := H.l, d := none } H' W) : Mut H H' W := by
  refine ⟨h.len, h.old, fun m hm => ?_⟩
  have := h.d m hm
  simpa using Or.inr this

/-- A model's map is written. -/
theorem SInv.mset {H : Hp} {t : TypeId} {p m mm turn : Nat} {l : List (List UInt8 × AV)} {sm : SM} (hi : SInv H t p m mm turn l sm) (o : AObj) (es' : List (Value × AV × Nat)) (clk' : Nat) :
    ∃ H1, H1 = hset (halloc { l := H.l, d := none } o) mm (some (.map es' clk')) ∧ Mut { l := H.l, d := none } H1 [p, m, mm] ∧ St H1 t p m turn l ∧ hget H1 mm = some (.map es' clk') ∧ (∃ mq, H1.d = some mq ∧ mq < H.l.length) ∧ (∀ x b, VBytes H x b → VBytes H1 x b) ∧ hget H1 H.l.length = some o ∧ hget (halloc { l := H.l, d := none } o) H.l.length = some o := by
  obtain ⟨es, clk, m1, m2, m3⟩ := hi.mp
  have hlt := hget_lt m1
  obtain ⟨H1, hH1⟩ : ∃ H1, H1 = hset (halloc { l := H.l, d := none } o) mm (some (.map es' clk')) := ⟨_, rfl⟩
  have M1 : Mut { l := H.l, d := none } H1 [mm] := by rw [hH1]; exact ((Mut.refl _ [mm]).alloc _).set (.inl (by simp))
  refine ⟨H1, hH1, M1.weaken (by simp), ?_, ?_, ?_, fun x b hx => hi.vb (W := [mm]) (by simp) M1.dd hx, ?_, by simp⟩
  · obtain ⟨v1, es2, clk2, v2, v3⟩ := hi.st.dd none
    exact ⟨M1.get' v1 (by simpa using hi.nep), es2, clk2, M1.get' v2 (by simpa using Ne.symm hi.ne), v3⟩
  · rw [hH1, hget_hset, if_pos rfl, if_pos (by simp; omega)]
  · rw [hH1]; exact hset_wrote hlt
  · rw [hH1, hget_hset, if_neg (by omega)]; simp

theorem sDel_none {k : List UInt8} {sm : SM} (h : (sFind k sm).isSome = false) : sDel k sm = sm := by
  have h2 : sFind k sm = none := by simpa using h
  rw [sFind_none, ← kpos_none] at h2
  unfold sDel; rw [h2]
theorem sFind_mem {k b : List UInt8} {sm : SM} (h : sFind k sm = some b) : (k, b) ∈ sm := by
  unfold sFind at h
  obtain ⟨j, hj, hj2⟩ := Option.bind_eq_some_iff.1 h
  obtain ⟨b', hb', _⟩ := kpos_some hj
  rw [hb'] at hj2
  simp only [Option.map_some, Option.some.injEq] at hj2
  subst hj2
  exact List.mem_of_getElem? hb'

/-- Behind an act: the invariant again. -/
theorem SInv.fin {H g : Hp} {t : TypeId} {p m mm turn turn' : Nat} {l l' : List (List UInt8 × AV)} {sm sm' : SM} {es' : List (Value × AV × Nat)} {clk' : Nat} (hi : SInv H t p m mm turn l sm) (hs : St g t p m turn' l') (hg : hget g mm = some (.map es' clk')) (hk : SKeys es') (hv : KV es' = sA sm') (hr : R2 g l' sm') (hn : (sKeys sm').Nodup) (hm : ∀ x ∈ sm', x.1.length ≤ 50 ∧ x.2.length ≤ 200 ∧ isNameB x.1 = true) (d : Option Nat) :
    SInv { l := g.l, d := d } t p m mm turn' l' sm' :=
  ⟨hs.dd d, ⟨es', clk', hg, hk, hv⟩, hr.keep fun x b hx => hx.dd d, hi.ne, hn, hm⟩

/-- What has bytes is no cell. -/
def arrO : AObj → Bool
  | .arr .. => true
  | _ => false
theorem Loc.vb_mut {H0 H H' : Hp} {os : List (Nat × AObj)} (hl : Loc H0 H os) (hos : ∀ q ∈ os, arrO q.2 = false) (k : Mut H H' (os.map Prod.fst)) {sz : Nat} {x : AV} {es : List AV} (hx : Vw H sz x es) : Vw H' sz x es := by
  rcases hx with hx | ⟨id, off, e, all, h0, h1, h2⟩
  · exact .inl hx
  · refine .inr ⟨id, off, e, all, h0, k.get' h1 (fun hw => ?_), h2⟩
    obtain ⟨q, hq, rfl⟩ := List.mem_map.1 hw
    have := hl.get hq
    rw [h1] at this
    simp only [Option.some.injEq] at this
    have h3 := hos q hq
    rw [← this] at h3
    simp [arrO] at h3
theorem arr_of_loop {o : AObj} (h : isLoopO o = true) : arrO o = false := by cases o <;> simp [isLoopO, arrO] at h ⊢

theorem bytesLess_false {a b : List UInt8} (h : b < a) : (Op.bytesLess a b || a == b) = false := by
  rw [bytesLess_eq]
  have h1 : ¬ a < b := fun h2 => List.lt_irrefl _ (List.lt_trans h2 h)
  have h2 : a ≠ b := by rintro rfl; exact List.lt_irrefl _ h
  simp [h1, h2]

theorem _root_.Go.Proofs.Eng.Vw.loc' {H0 H : Hp} {os : List (Nat × AObj)} {sz : Nat} {x : AV} {es : List AV} (h : Vw H0 sz x es) (hl : Loc H0 H os) : Vw H sz x es := h.keep fun _ hi => hl.oldget hi
theorem is_call (hs : StoreS Γ A N) (h2 : StoreS2 Γ A N) (hL : StoreL Γ A N) {H : Hp} {t : TypeId} {p m mm turn clk : Nat} {l : List (List UInt8 × AV)} {sm sm2 : SM} {es : List (Value × AV × Nat)} (hst : St H t p m turn l) (hr : R2 H l sm) (hmm : hget H mm = some (.map es clk)) (hsk : SKeys es) (hkv : KV es = sA sm2)
    (hsame : ∀ k, sFind k sm2 = sFind k sm) (hlen : sm2.length = sm.length) (nd : (sKeys sm).Nodup) (nm : ∀ x ∈ sm, x.1.length ≤ 50 ∧ x.2.length ≤ 200 ∧ isNameB x.1 = true) (hsl : sm.length < 2 ^ 30) :
    (lim Γ A).call (f_law23_is N) [.ptr p 0, .map mm] H = some (avBool true, none) := by
  have hgen := All1_gen hs h2 (t := t) (tc := t_p_store_Store N) (p := p) (m := m) (turn := turn) (c := H.l.length + 1 + 1 + 1 + 1 + 1) (l := l) nd (fun x hx => ⟨by have := (nm x hx).1; simp [maxLen]; omega, by have := (nm x hx).2.1; omega⟩) (by omega)
  obtain ⟨oo, hoo⟩ : ∃ oo : Nat → List UInt8 → List (Nat × AObj), ∀ i last, oo i last = [(H.l.length + 1 + 1 + 1 + 1 + 1, .cells [.ptr p 0] (t_p_store_Store N)), (H.l.length + 1 + 1 + 1 + 1, .cells [avInt .i64 i] (t_int N)), (H.l.length + 1 + 1 + 1, .cells [avStr last] (t_string N)),
      (H.l.length + 1 + 1, .cells [avBool false] (t_bool N)), (H.l.length + 1, .cells [.map mm] (t_map_string_string N)), (H.l.length, .cells [.ptr p 0] (t_p_store_Store N))] := ⟨_, fun _ _ => rfl⟩
  have hids : ∀ i last i' last', (oo i last).map Prod.fst = (oo i' last').map Prod.fst := fun i last i' last' => by simp [hoo]
  have hna : ∀ i last, ∀ q ∈ oo i last, arrO q.2 = false := fun i last q hq => by
    rw [hoo] at hq
    simp only [List.mem_cons, List.not_mem_nil, or_false] at hq
    rcases hq with rfl | rfl | rfl | rfl | rfl | rfl <;> rfl
  have oldSt : ∀ {H' : Hp} {os : List (Nat × AObj)}, Loc H H' os → St H' t p m turn l ∧ R2 H' l sm ∧ hget H' mm = some (.map es clk) := fun {H' os} hL => by
    obtain ⟨v1, es2, clk2, v2, v3⟩ := hst
    exact ⟨⟨by rw [hL.oldget (hget_lt v1)]; exact v1, es2, clk2, by rw [hL.oldget (hget_lt v2)]; exact v2, v3⟩, hr.keep fun x b hx => hx.loc' hL, by rw [hL.oldget (hget_lt hmm)]; exact hmm⟩
  apply hL.is'.call (by rfl)
  have eA := fun H => All_call h2 H p
  simp [C_law23_is, setFrom, eA, -halloc_d, -hset_d]
  have L1 := (((((((Loc.start H).alloc (.cells [.ptr p 0] (t_p_store_Store N))).alloc (.cells [.map mm] (t_map_string_string N))).alloc (.cells [avBool false] (t_bool N))).alloc (.cells [avStr []] (t_string N))).set (.cells [avStr []] (t_string N))).alloc (.cells [avInt .i64 0] (t_int N))).set (.cells [avInt .i64 0] (t_int N))
  have L2 := L1.alloc (.cells [.ptr p 0] (t_p_store_Store N))
  generalize hX : Hp.mk _ _ = HX
  have L3 : Loc H HX (oo 0 []) := by
    rw [← hX, hoo]
    simp only [hset_len, halloc_len] at L2
    exact L2
  refine wp_rangeFnM (g := f_p_store_Store_All_1 N) (fs := []) (cs := [.ptr (H.l.length + 1 + 1 + 1 + 1 + 1) 0]) (by simp [upd_at]) hgen rfl L3
    (fun i os' => ∃ last, os' = oo i last ∧ (0 < i → (sortB (sKeys sm))[i - 1]? = some last)) (fun _ _ => False) ?_ ⟨[], rfl, by omega⟩ ?_ ?_
  · rintro i H' l' o os' hL' ⟨last, rfl, _⟩
    obtain ⟨s1, s2, _⟩ := oldSt hL'
    refine ⟨hL'.get (p := (H.l.length + 1 + 1 + 1 + 1 + 1, .cells [.ptr p 0] (t_p_store_Store N))) (by simp [hoo]), s1, s2⟩
  · rintro i hi l' lo lb H' os' args hlo hlb hL' ⟨last, rfl, hlast⟩ ⟨k, cc, b, k1, k2, rfl, hvb⟩
    refine ⟨rfl, ?_⟩
    simp [L_law23_is_1]
    refine ⟨_, hL', Mut.refl _ _, fun H1 hL1 hM1 => ?_⟩
    obtain ⟨s1, s2, s3⟩ := oldSt hL1
    have hvb1 : VBytes H1 cc b := hL'.vb_mut (by
      intro q hq
      rcases List.mem_cons.1 hq with rfl | hq
      · exact arr_of_loop hlo
      · exact hna _ _ q hq) hM1 hvb
    have hb1 := s2.get k
    rw [k2] at hb1
    obtain ⟨c2, g, t1, t2, t3⟩ := Text_call hs h2 s1 hb1 (by have := (nm _ (sFind_mem k2)).2.1; simp only [Option.getD_some] at this ⊢; omega)
    have hvis := s2.isSome k
    rw [k2] at hvis
    have q1 := aLookup_str (s := mkS k) (z := .lit (.string (mkS []))) s3 hsk
    rw [hkv] at q1
    simp only [bl_mkS, vFind_sA_get, vFind_sA_isSome, hsame, k2] at q1
    generalize hG : g.getD H1 = G at t2 t3
    have hLG := hL1.still t2
    have hvb2 : VBytes G cc b := t2.vw hvb1 (by simp)
    have f2 := hL1.get (p := (H.l.length, .cells [.ptr p 0] (t_p_store_Store N))) (by simp [hoo])
    have f3 := hL1.get (p := (H.l.length + 1, .cells [.map mm] (t_map_string_string N))) (by simp [hoo])
    have g5 := hLG.get (p := (H.l.length + 1 + 1 + 1, .cells [avStr last] (t_string N))) (by simp [hoo])
    have g6 := hLG.get (p := (H.l.length + 1 + 1 + 1 + 1, .cells [avInt .i64 i] (t_int N))) (by simp [hoo])
    simp only at f2 f3 g5 g6
    have e1 := hvb2.str
    have e2 := t3.str
    have hLG' : Loc H G ([(l', lb), (H.l.length + 1 + 1 + 1 + 1 + 1, .cells [.ptr p 0] (t_p_store_Store N)), (H.l.length + 1 + 1 + 1 + 1, .cells [avInt .i64 i] (t_int N))] ++ (H.l.length + 1 + 1 + 1, .cells [avStr last] (t_string N)) :: [(H.l.length + 1 + 1, .cells [avBool false] (t_bool N)), (H.l.length + 1, .cells [.map mm] (t_map_string_string N)), (H.l.length, .cells [.ptr p 0] (t_p_store_Store N))]) := by
      rw [hoo] at hLG; exact hLG
    have hL3 := hLG'.setMid (.cells [avStr k] (t_string N))
    have hL3' : Loc H (hset G (H.l.length + 1 + 1 + 1) (some (.cells [avStr k] (t_string N)))) ([(l', lb), (H.l.length + 1 + 1 + 1 + 1 + 1, .cells [.ptr p 0] (t_p_store_Store N))] ++ (H.l.length + 1 + 1 + 1 + 1, .cells [avInt .i64 i] (t_int N)) :: [(H.l.length + 1 + 1 + 1, .cells [avStr k] (t_string N)), (H.l.length + 1 + 1, .cells [avBool false] (t_bool N)), (H.l.length + 1, .cells [.map mm] (t_map_string_string N)), (H.l.length, .cells [.ptr p 0] (t_p_store_Store N))]) := hL3
    have g6' := hL3.get (p := (H.l.length + 1 + 1 + 1 + 1, .cells [avInt .i64 i] (t_int N))) (by simp)
    have hL4 := hL3'.setMid (.cells [avInt .i64 ((i + 1 : Nat) : Int)] (t_int N))
    simp only at g6'
    have hw : IntKind.wrap .i64 ((i : Int) + 1) = ((i + 1 : Nat) : Int) := by rw [wrap64 (by omega) (by omega)]; omega
    have hM2 : Mut H' G (l' :: (oo i last).map Prod.fst) := hM1.trans t2 (by simp)
    have hM4 : Mut H' (hset (hset G (H.l.length + 1 + 1 + 1) (some (.cells [avStr k] (t_string N)))) (H.l.length + 1 + 1 + 1 + 1) (some (.cells [avInt .i64 ((i + 1 : Nat) : Int)] (t_int N)))) (l' :: (oo i last).map Prod.fst) :=
      (hM2.set (.inl (by simp [hoo]))).set (.inl (by simp [hoo]))
    have fin : ∃ os2, Loc H (hset (hset G (H.l.length + 1 + 1 + 1) (some (.cells [avStr k] (t_string N)))) (H.l.length + 1 + 1 + 1 + 1) (some (.cells [avInt .i64 ((i + 1 : Nat) : Int)] (t_int N)))) ((l', lb) :: os2) ∧ Mut H' (hset (hset G (H.l.length + 1 + 1 + 1) (some (.cells [avStr k] (t_string N)))) (H.l.length + 1 + 1 + 1 + 1) (some (.cells [avInt .i64 ((i + 1 : Nat) : Int)] (t_int N)))) (l' :: (oo i last).map Prod.fst) ∧
        (∀ s ∈ os2.map Prod.fst, s ∈ (oo i last).map Prod.fst ∨ H'.l.length ≤ s) ∧ (∃ last', os2 = oo (i + 1) last' ∧ (0 < i + 1 → (sortB (sKeys sm))[i + 1 - 1]? = some last')) := by
      refine ⟨oo (i + 1) k, ?_, hM4, fun s hs => .inl (by rw [hids i last (i + 1) k]; exact hs), k, rfl, fun _ => by simpa using k1⟩
      rw [hoo]; simpa using hL4
    have hlt3 := hget_lt g5
    have hlt6 := hget_lt g6'
    have fin2 : (∃ os2, Loc H (hset (hset G (H.l.length + 1 + 1 + 1) (some (.cells [avStr k] (t_string N)))) (H.l.length + 1 + 1 + 1 + 1) (some (.cells [avInt .i64 ((i + 1 : Nat) : Int)] (t_int N)))) ((l', lb) :: os2) ∧ Mut H' (hset (hset G (H.l.length + 1 + 1 + 1) (some (.cells [avStr k] (t_string N)))) (H.l.length + 1 + 1 + 1 + 1) (some (.cells [avInt .i64 ((i + 1 : Nat) : Int)] (t_int N)))) (l' :: (oo i last).map Prod.fst) ∧
        (∀ (s : Nat) (x : AObj), (s, x) ∈ os2 → (∃ x, (s, x) ∈ oo i last) ∨ H'.l.length ≤ s) ∧ (∃ last', os2 = oo (i + 1) last' ∧ (sortB (sKeys sm))[i]? = some last')) := by
      obtain ⟨os2, r1, r2, r3, last', r4, r5⟩ := fin
      refine ⟨os2, r1, r2, fun s x hx => ?_, last', r4, r5 (by omega)⟩
      rcases r3 s (List.mem_map.2 ⟨(s, x), hx, rfl⟩) with r3 | r3
      · obtain ⟨⟨s', x'⟩, r6, rfl⟩ := List.mem_map.1 r3
        exact .inl ⟨x', r6⟩
      · exact .inr r3
    by_cases hi0 : i = 0
    · subst hi0
      have w01 : IntKind.i64.wrap 1 = 1 := by decide
      simp [L_law23_is_2, f2, f3, q1, t1, bindH_opt, hG, hvis, g5, g6, e1, e2, hlt3, g6', w01, -hset_d, -halloc_d, -Int.natCast_add, -hget_hset]
      exact fin2
    · have hpos : 0 < i := by omega
      have hls := hlast hpos
      have hlk : last < k := by
        have hst := sortB_strict nd
        have hi2 : i < (sortB (sKeys sm)).length := (List.getElem?_eq_some_iff.1 k1).1
        have e1 := (List.getElem?_eq_some_iff.1 k1).2
        have e2 := (List.getElem?_eq_some_iff.1 hls).2
        have := List.pairwise_iff_getElem.1 hst (i - 1) i (by omega) hi2 (by omega)
        rw [e1, e2] at this
        exact this
      have hbl := bytesLess_false hlk
      simp [L_law23_is_2, f2, f3, q1, t1, bindH_opt, hG, hvis, g5, g6, hpos, hbl, e1, e2, hlt3, g6', hw, -hset_d, -halloc_d, -Int.natCast_add, -hget_hset]
      exact fin2
  · rintro x H2 os2 hL2 (⟨rfl, last, rfl, _⟩ | ⟨_, hF⟩)
    · obtain ⟨s1, s2, s3⟩ := oldSt hL2
      have f2 := hL2.get (p := (H.l.length, .cells [.ptr p 0] (t_p_store_Store N))) (by simp [hoo])
      have f3 := hL2.get (p := (H.l.length + 1, .cells [.map mm] (t_map_string_string N))) (by simp [hoo])
      have g4 := hL2.get (p := (H.l.length + 1 + 1, .cells [avBool false] (t_bool N))) (by simp [hoo])
      have g6 := hL2.get (p := (H.l.length + 1 + 1 + 1 + 1, .cells [avInt .i64 sm.length] (t_int N))) (by simp [hoo])
      simp only at f2 f3 g4 g6
      have hlen1 := Len_call h2 s1
      have hlm := aLenm_map s3
      rw [hkv, sA_len, hlen] at hlm
      have hlen2 := Len_call h2 (s1.dd none)
      rw [s2.len] at hlen1 hlen2
      have hlt4 := hget_lt g4
      have hLg : Loc H H2 ([(H.l.length + 1 + 1 + 1 + 1 + 1, .cells [.ptr p 0] (t_p_store_Store N)), (H.l.length + 1 + 1 + 1 + 1, .cells [avInt .i64 sm.length] (t_int N)), (H.l.length + 1 + 1 + 1, .cells [avStr last] (t_string N))] ++ (H.l.length + 1 + 1, .cells [avBool false] (t_bool N)) :: [(H.l.length + 1, .cells [.map mm] (t_map_string_string N)), (H.l.length, .cells [.ptr p 0] (t_p_store_Store N))]) := by
        rw [hoo] at hL2; exact hL2
      have hL5 := hLg.setMid (.cells [avBool true] (t_bool N))
      have hse := settle_keeps (v := avBool true) hL5.keeps (by simp [AV.under])
      simp [K_law23_is_1, f2, f3, g4, g6, hlm, hlen1, hlen2, hlt4, -hset_d, -halloc_d, -Int.natCast_add]
      exact hse
    · exact hF.elim
end
end Go.Proofs.Eng
/- The law StoreRounds, run by the engine. -/
set_option linter.unusedVariables false
set_option linter.unusedSimpArgs false
set_option maxRecDepth 100000
namespace Go.Proofs.Eng
open Go
theorem sFind_cons (k x c : List UInt8) (r : SM) : sFind k ((x, c) :: r) = if k = x then some c else sFind k r := by
  unfold sFind sKeys
  simp only [List.map_cons, kpos]
  split
  · rfl
  · cases kpos k (List.map Prod.fst r) <;> simp
theorem sPut_cons (k b x c : List UInt8) (r : SM) : sPut k b ((x, c) :: r) = if k = x then (k, b) :: r else (x, c) :: sPut k b r := by
  unfold sPut sKeys
  simp only [List.map_cons, kpos]
  by_cases h : k = x
  · simp [h]
  · simp only [h, if_false]
    cases kpos k (List.map Prod.fst r) <;> simp
theorem sDel_cons (k x c : List UInt8) (r : SM) : sDel k ((x, c) :: r) = if k = x then r else (x, c) :: sDel k r := by
  unfold sDel sKeys
  simp only [List.map_cons, kpos]
  by_cases h : k = x
  · simp [h]
  · simp only [h, if_false]
    cases kpos k (List.map Prod.fst r) <;> simp
theorem sFind_put (k b y : List UInt8) : ∀ sm : SM, sFind y (sPut k b sm) = if y = k then some b else sFind y sm
  | [] => by
    show sFind y [(k, b)] = _
    rw [sFind_cons]
  | (x, c) :: r => by
    rw [sPut_cons, sFind_cons]
    by_cases h : k = x
    · rw [if_pos h, sFind_cons]
      by_cases h2 : y = k
      · simp [h2]
      · rw [if_neg h2, if_neg h2, if_neg (by rw [← h]; exact h2)]
    · rw [if_neg h, sFind_cons, sFind_put k b y r]
      by_cases h2 : y = x
      · rw [if_pos h2, if_neg (by rw [h2]; exact Ne.symm h), if_pos h2]
      · rw [if_neg h2, if_neg h2]
theorem sFind_del (k y : List UInt8) : ∀ sm : SM, (sKeys sm).Nodup → sFind y (sDel k sm) = if y = k then none else sFind y sm
  | [], _ => by
    show sFind y [] = _
    split <;> rfl
  | (x, c) :: r, hn => by
    have hn' : x ∉ sKeys r ∧ (sKeys r).Nodup := by simpa [sKeys] using hn
    rw [sDel_cons, sFind_cons]
    by_cases h : k = x
    · rw [if_pos h]
      by_cases h2 : y = k
      · rw [if_pos h2, sFind_none, h2, h]; exact hn'.1
      · rw [if_neg h2, if_neg (by rw [← h]; exact h2)]
    · rw [if_neg h, sFind_cons, sFind_del k y r hn'.2]
      by_cases h2 : y = x
      · rw [if_pos h2, if_neg (by rw [h2]; exact Ne.symm h), if_pos h2]
      · rw [if_neg h2, if_neg h2]
theorem sPut_new {k b : List UInt8} {sm : SM} (h : sFind k sm = none) : (sPut k b sm).length = sm.length + 1 := by
  rw [sFind_none, ← kpos_none] at h
  unfold sPut; rw [h]; simp
theorem sDel_old {k : List UInt8} {sm : SM} (h : (sFind k sm).isSome = true) : (sDel k sm).length + 1 = sm.length := by
  unfold sDel
  cases hk : kpos k (sKeys sm) with
  | none =>
    rw [sFind_none.2 (kpos_none.1 hk)] at h
    simp at h
  | some i =>
    obtain ⟨b, _, hi⟩ := kpos_some hk
    simp only [List.length_eraseIdx_of_lt hi]
    omega

section
variable {Γ : Sums} {A : Tab} {N : Nat → Nat}

/-- An act as an argument. -/
def IsAct (e : AV) : Prop := ∃ k a b y ty, e = actV k a b y ∧ IsBytes y ty
end
end Go.Proofs.Eng
/- The laws of the store: an act, with a model whose names may stand in another order; objects that no text is. -/
set_option linter.unusedVariables false
set_option linter.unusedSimpArgs false
set_option maxRecDepth 100000
namespace Go.Proofs.Eng
open Go
theorem sPut_old {k b : List UInt8} {sm : SM} (h : (sFind k sm).isSome = true) : (sPut k b sm).length = sm.length := by
  unfold sPut
  cases hk : kpos k (sKeys sm) with
  | none =>
    rw [sFind_none.2 (kpos_none.1 hk)] at h
    simp at h
  | some i => simp
theorem sPut_len2 {k b : List UInt8} {sm sm2 : SM} (h : ∀ k, sFind k sm2 = sFind k sm) (hl : sm2.length = sm.length) : (sPut k b sm2).length = (sPut k b sm).length := by
  cases hs : sFind k sm with
  | none => rw [sPut_new hs, sPut_new (by rw [h, hs]), hl]
  | some v =>
    have a : (sFind k sm).isSome = true := by rw [hs]; rfl
    have b : (sFind k sm2).isSome = true := by rw [h, hs]; rfl
    rw [sPut_old a, sPut_old b, hl]
theorem sDel_len2 {k : List UInt8} {sm sm2 : SM} (h : ∀ k, sFind k sm2 = sFind k sm) (hl : sm2.length = sm.length) : (sDel k sm2).length = (sDel k sm).length := by
  cases hs : sFind k sm with
  | none =>
    have a : (sFind k sm).isSome = false := by rw [hs]; rfl
    have b : (sFind k sm2).isSome = false := by rw [h, hs]; rfl
    rw [sDel_none a, sDel_none b, hl]
  | some v =>
    have := sDel_old (k := k) (sm := sm) (by rw [hs]; rfl)
    have := sDel_old (k := k) (sm := sm2) (by rw [h, hs]; rfl)
    omega
/-- No text is an object of X. -/
def NX (X : Nat → Prop) (l : List (List UInt8 × AV)) : Prop := ∀ e ∈ l, ∀ id off n, e.2 = .ra 1 id off n → ¬ X id
theorem vPut_mem {k : List UInt8} {c : AV} {l : List (List UInt8 × AV)} {x} (h : x ∈ vPut k c l) : x = (k, c) ∨ x ∈ l := by
  unfold vPut at h
  split at h
  · rename_i p hp
    obtain ⟨j, hj⟩ := List.mem_iff_getElem?.1 h
    rw [List.getElem?_modify] at hj
    cases hs : l[j]? with
    | none => rw [hs] at hj; simp at hj
    | some y =>
      rw [hs] at hj
      by_cases hij : p.1 = j
      · simp [hij] at hj; exact .inl hj.symm
      · simp [hij] at hj; exact .inr (hj ▸ List.mem_of_getElem? hs)
  · rcases List.mem_append.1 h with h | h
    · exact .inr h
    · exact .inl (by simpa using h)
theorem vDel_mem {k : List UInt8} {l : List (List UInt8 × AV)} {x} (h : x ∈ vDel k l) : x ∈ l := by
  unfold vDel at h
  split at h
  · exact (List.eraseIdx_sublist _ _).subset h
  · exact h
theorem vFind_mem {k : List UInt8} : ∀ {l : List (List UInt8 × AV)} {p : Nat × AV}, vFind k l = some p → ∃ e ∈ l, e.2 = p.2
  | [], p, h => by simp [vFind] at h
  | e :: r, p, h => by
    simp only [vFind] at h
    split at h
    · simp only [Option.some.injEq] at h; subst h; exact ⟨e, by simp, rfl⟩
    · obtain ⟨q, hq, rfl⟩ := Option.map_eq_some_iff.1 h
      obtain ⟨e', he, hh⟩ := vFind_mem hq
      exact ⟨e', by simp [he], hh⟩
theorem nx_put {X : Nat → Prop} {k : List UInt8} {c : AV} {l : List (List UInt8 × AV)} (h : NX X l) (hc : ∀ id off n, c = .ra 1 id off n → ¬ X id) : NX X (vPut k c l) := by
  intro e he id off n h1
  rcases vPut_mem he with rfl | he
  · exact hc id off n h1
  · exact h e he id off n h1
theorem nx_del {X : Nat → Prop} {k : List UInt8} {l : List (List UInt8 × AV)} (h : NX X l) : NX X (vDel k l) := fun e he => h e (vDel_mem he)
theorem nx_find {X : Nat → Prop} {k : List UInt8} {l : List (List UInt8 × AV)} (h : NX X l) : ∀ id off n, ((vFind k l).map Prod.snd).getD avNilS = .ra 1 id off n → ¬ X id := by
  intro id off n h1
  cases hv : vFind k l with
  | none => rw [hv] at h1; cases h1
  | some p =>
    rw [hv] at h1
    obtain ⟨e, he, h2⟩ := vFind_mem hv
    exact h e he id off n (h2.trans h1)
theorem row_nx {X : Nat → Prop} {G H : Hp} {t : TypeId} {c : AV} {es : List AV} {os : List (Nat × AObj)} (h : Row t 1 c es os) (ho : ∀ q ∈ os, hget G q.1 = some q.2 ∧ H.l.length ≤ q.1) (hx : ∀ i, X i → i < H.l.length) : ∀ id off n, c = .ra 1 id off n → ¬ X id := by
  intro id off n hc hX
  have := hx id hX
  rcases h with ⟨rfl, r2, rfl⟩ | ⟨id', rfl, rfl⟩
  · cases hc
  · simp only [AV.ra.injEq] at hc
    have := (ho _ (List.mem_singleton.2 rfl)).2
    simp only at this
    omega

structure SInv2 (X : Nat → Prop) (H : Hp) (t : TypeId) (p m mm turn : Nat) (l : List (List UInt8 × AV)) (sm sm2 : SM) : Prop where
  st : St H t p m turn l
  mp : ∃ es clk, hget H mm = some (.map es clk) ∧ SKeys es ∧ KV es = sA sm2
  r2 : R2 H l sm
  ne : mm ≠ m
  nd : (sKeys sm).Nodup
  nd2 : (sKeys sm2).Nodup
  same : ∀ k, sFind k sm2 = sFind k sm
  ln : sm2.length = sm.length
  nm : ∀ x ∈ sm, x.1.length ≤ 50 ∧ x.2.length ≤ 200 ∧ isNameB x.1 = true
  nx : NX X l
  xl : ∀ i, X i → i < H.l.length
section
variable {Γ : Sums} {A : Tab} {N : Nat → Nat} {X : Nat → Prop} {H H' g : Hp} {t : TypeId} {p m mm turn : Nat} {l : List (List UInt8 × AV)} {sm sm2 : SM}
theorem SInv2.nep (h : SInv2 X H t p m mm turn l sm sm2) : p ≠ mm := by
  rintro rfl
  obtain ⟨es, clk, h1, _⟩ := h.mp
  rw [h.st.cell] at h1
  cases h1
/-- Nothing but what is no row is written. -/
theorem vb_rows {W : List Nat} (hW : ∀ i ∈ W, ∀ sz es e, hget H i ≠ some (.arr sz es e)) (k : Mut H H' W) {x : AV} {b : List UInt8} (hx : VBytes H x b) : VBytes H' x b := by
  rcases hx with hx | ⟨id, off, e, all, h0, h1, h2⟩
  · exact .inl hx
  · exact .inr ⟨id, off, e, all, h0, k.get' h1 (fun hw => hW id hw _ _ _ h1), h2⟩
theorem SInv2.vb (h : SInv2 X H t p m mm turn l sm sm2) {W : List Nat} (hW : ∀ i ∈ W, i = p ∨ i = m ∨ i = mm) (k : Mut H H' W) {x : AV} {b : List UInt8} (hx : VBytes H x b) : VBytes H' x b := by
  refine vb_rows (fun i hi sz es e h1 => ?_) k hx
  rcases hW i hi with rfl | rfl | rfl
  · rw [h.st.cell] at h1; cases h1
  · obtain ⟨es, clk, c, _⟩ := h.st.mp
    rw [c] at h1; cases h1
  · obtain ⟨es, clk, c, _⟩ := h.mp
    rw [c] at h1; cases h1
/-- What is written are objects of X, or none of the store's and no rows. -/
theorem SInv2.frame (h : SInv2 X H t p m mm turn l sm sm2) {W : List Nat} (hW : ∀ i ∈ W, i ≠ p ∧ i ≠ m ∧ i ≠ mm ∧ (X i ∨ ∀ sz es e, hget H i ≠ some (.arr sz es e))) (k : Mut H H' W) : SInv2 X H' t p m mm turn l sm sm2 := by
  obtain ⟨es, clk, h1, h2⟩ := h.mp
  have np : p ∉ W := fun hp => (hW p hp).1 rfl
  have nm' : m ∉ W := fun hp => (hW m hp).2.1 rfl
  have nmm : mm ∉ W := fun hp => (hW mm hp).2.2.1 rfl
  obtain ⟨c1, es', clk', c2, c3⟩ := h.st
  refine ⟨⟨k.get' c1 np, es', clk', k.get' c2 nm', c3⟩, ⟨es, clk, k.get' h1 nmm, h2⟩, ⟨h.r2.1, fun i x y hx hy => ?_⟩, h.ne, h.nd, h.nd2, h.same, h.ln, h.nm, h.nx, fun i hi => Nat.lt_of_lt_of_le (h.xl i hi) k.len⟩
  rcases h.r2.2 i x y hx hy with hv | ⟨id, off, e, all, h0, hg, hr⟩
  · exact .inl hv
  · refine .inr ⟨id, off, e, all, h0, k.get' hg (fun hw => ?_), hr⟩
    rcases (hW id hw).2.2.2 with hX | hX
    · exact h.nx x (List.mem_of_getElem? hx) id off _ h0 hX
    · exact hX _ _ _ hg
theorem SInv2.still (h : SInv2 X H t p m mm turn l sm sm2) (k : Mut H H' []) : SInv2 X H' t p m mm turn l sm sm2 := h.frame (by simp) k
theorem SInv2.weak {Y : Nat → Prop} (h : SInv2 X H t p m mm turn l sm sm2) (hn : NX Y l) (hy : ∀ i, Y i → i < H.l.length) : SInv2 Y H t p m mm turn l sm sm2 := ⟨h.st, h.mp, h.r2, h.ne, h.nd, h.nd2, h.same, h.ln, h.nm, hn, hy⟩
/-- No text is a new object. -/
theorem SInv2.new (h : SInv2 X H t p m mm turn l sm sm2) : ∀ e ∈ l, ∀ id off n, e.2 = .ra 1 id off n → id < H.l.length := by
  intro e he id off n e1
  obtain ⟨i, hi⟩ := List.mem_iff_getElem?.1 he
  have hlt := (List.getElem?_eq_some_iff.1 hi).1
  have hlt2 : i < sm.length := by rw [← h.r2.len]; exact hlt
  rcases h.r2.2 i _ _ hi (List.getElem?_eq_getElem hlt2) with hv | ⟨id', off', e', all, h0, hg, hr⟩
  · rcases hv with ⟨hv, _⟩ | hv <;> (rw [e1] at hv; cases hv)
  · rw [e1] at h0
    simp only [AV.ra.injEq] at h0
    rw [h0.2.1]
    exact hget_lt hg

def DoOut2 (X : Nat → Prop) (H : Hp) (t : TypeId) (p m mm turn : Nat) (sm : SM) (g : Option Hp) : Prop :=
  ∃ l' sm' sm2' turn', SInv2 X (g.getD H) t p m mm turn' l' sm' sm2' ∧ Mut H (g.getD H) [p, m, mm] ∧ turn ≤ turn' ∧ turn' ≤ turn + 1 ∧ sm'.length ≤ sm.length + 1

theorem SInv2.mset (hi : SInv2 X H t p m mm turn l sm sm2) (o : AObj) (es' : List (Value × AV × Nat)) (clk' : Nat) :
    ∃ H1, H1 = hset (halloc { l := H.l, d := none } o) mm (some (.map es' clk')) ∧ Mut { l := H.l, d := none } H1 [p, m, mm] ∧ St H1 t p m turn l ∧ hget H1 mm = some (.map es' clk') ∧ (∃ mq, H1.d = some mq ∧ mq < H.l.length) ∧ (∀ x b, VBytes H x b → VBytes H1 x b) ∧ hget H1 H.l.length = some o ∧ hget (halloc { l := H.l, d := none } o) H.l.length = some o := by
  obtain ⟨es, clk, m1, m2, m3⟩ := hi.mp
  have hlt := hget_lt m1
  obtain ⟨H1, hH1⟩ : ∃ H1, H1 = hset (halloc { l := H.l, d := none } o) mm (some (.map es' clk')) := ⟨_, rfl⟩
  have M1 : Mut { l := H.l, d := none } H1 [mm] := by rw [hH1]; exact ((Mut.refl _ [mm]).alloc _).set (.inl (by simp))
  refine ⟨H1, hH1, M1.weaken (by simp), ?_, ?_, ?_, fun x b hx => hi.vb (W := [mm]) (by simp) M1.dd hx, ?_, by simp⟩
  · obtain ⟨v1, es2, clk2, v2, v3⟩ := hi.st.dd none
    exact ⟨M1.get' v1 (by simpa using hi.nep), es2, clk2, M1.get' v2 (by simpa using Ne.symm hi.ne), v3⟩
  · rw [hH1, hget_hset, if_pos rfl, if_pos (by simp; omega)]
  · rw [hH1]; exact hset_wrote hlt
  · rw [hH1, hget_hset, if_neg (by omega)]; simp

theorem SInv2.fin {turn' : Nat} {l' : List (List UInt8 × AV)} {sm' sm2' : SM} {es' : List (Value × AV × Nat)} {clk' : Nat} (hi : SInv2 X H t p m mm turn l sm sm2) (hs : St g t p m turn' l') (hg : hget g mm = some (.map es' clk')) (hk : SKeys es') (hv : KV es' = sA sm2') (hr : R2 g l' sm') (hn : (sKeys sm').Nodup) (hn2 : (sKeys sm2').Nodup) (hsame : ∀ k, sFind k sm2' = sFind k sm') (hln : sm2'.length = sm'.length) (hm : ∀ x ∈ sm', x.1.length ≤ 50 ∧ x.2.length ≤ 200 ∧ isNameB x.1 = true) (hnx : NX X l') (hle : H.l.length ≤ g.l.length) (d : Option Nat) :
    SInv2 X { l := g.l, d := d } t p m mm turn' l' sm' sm2' :=
  ⟨hs.dd d, ⟨es', clk', hg, hk, hv⟩, hr.keep fun x b hx => hx.dd d, hi.ne, hn, hn2, hsame, hln, hm, hnx, fun i hx => Nat.lt_of_lt_of_le (hi.xl i hx) hle⟩

theorem do_call2 (hs : StoreS Γ A N) (h2 : StoreS2 Γ A N) (hL : StoreL Γ A N) (hi : SInv2 X H t p m mm turn l sm sm2) (ht : turn < 2 ^ 59) (hsl : sm.length < 2 ^ 30)
    {k : Int} {a b tx : List UInt8} {x : AV} (ha : a.length ≤ 50) (hb : b.length ≤ 50) (htx : tx.length ≤ 200) (hx : VBytes H x tx) :
    ∃ g, (lim Γ A).call (f_law23_do N) [.ptr p 0, .map mm, actV k a b x] H = some (avBool true, g) ∧ DoOut2 X H t p m mm turn sm g := by
  have hi0 := hi
  have hnep := hi.nep
  obtain ⟨hst, ⟨es, clk, m1, m2, m3⟩, r2, ne, nd, nd2, sme, sln, nm, nx, xl⟩ := hi
  have hpm := hst.ne
  have hltp := hget_lt hst.cell
  have hltm : m < H.l.length := by obtain ⟨_, _, c, _⟩ := hst.mp; exact hget_lt c
  have hltmm := hget_lt m1
  have gal : ∀ o i, i < H.l.length → hget (halloc { l := H.l, d := none } o) i = hget H i := fun o i hi => by
    rw [hget_halloc, if_neg (by simp only; omega)]; rfl
  have c1 : ∀ o, St (halloc { l := H.l, d := none } o) t p m turn l := fun o => (hst.dd none).alloc o
  have c2 : ∀ o, hget (halloc { l := H.l, d := none } o) mm = some (.map es clk) := fun o => by rw [gal o mm hltmm]; exact m1
  have c3 : ∀ o, VBytes (halloc { l := H.l, d := none } o) x tx := fun o => hx.keep fun id hid => gal o id hid
  have q : ∀ o s, aLookup (halloc { l := H.l, d := none } o) .string (.lit (.string (mkS []))) true (.string (mkS s)) (.map mm) = some (.tup [((sFind s sm).map avStr).getD (avStr []), avBool (sFind s sm).isSome]) := fun o s => by
    rw [aLookup_str (c2 o) m2, m3]
    simp only [bl_mkS, vFind_sA_get, vFind_sA_isSome, sme]
  have ql : ∀ o, aLenm (halloc { l := H.l, d := none } o) (.map mm) = some (avInt .i64 sm.length) := fun o => by
    rw [aLenm_map (c2 o), m3, sA_len, sln]
  have e1 := fun H => hL.name a H (by omega)
  have e2 := fun H => hL.name b H (by omega)
  have hll := r2.len
  have hsa := r2.isSome a
  have hsb := r2.isSome b
  have same : ∀ r : AV, r = avBool true → DoOut2 X H t p m mm turn sm none := fun _ _ => ⟨l, sm, sm2, turn, hi0, Mut.refl _ _, Nat.le_refl _, Nat.le_succ _, Nat.le_succ _⟩
  have c3s := fun o => (c3 o).str
  have hxo : x.one = true := by
    rcases hx with (⟨rfl, _⟩ | rfl) | ⟨id, off, e, all, rfl, _⟩ <;> rfl
  unfold actV
  by_cases hk0 : k = 0
  · subst hk0
    by_cases hna : isNameB a = true
    · by_cases hfull : (sFind a sm).isSome = false ∧ 256 ≤ sm.length
      · have hse : setE a tx.length l = 20 := by
          unfold setE
          rw [hna, hsa, hll]
          simp [hfull]; omega
        have s1 := fun o => Set_err hs (c1 o) (c3 o) (s := a) (by omega) (by rw [hse]; decide)
        simp only [hse] at s1
        have hf2 : (256 : Int) ≤ sm.length := by omega
        refine ⟨none, ?_, same _ rfl⟩
        apply hL.do'.call (by rfl)
        simp [C_law23_do, hxo, q, ql, e1, hna, hfull.1, hf2, s1, settle, keeps]
      · -- the text is set
        have hse : setE a tx.length l = 0 := by
          unfold setE
          rw [hna, hsa, hll]
          simp only [Bool.not_true, Bool.false_eq_true, if_false]
          rw [if_neg (by omega), if_neg hfull]
        obtain ⟨o, ho⟩ : ∃ o, o = AObj.cells [avInt .i64 0, avStr a, avStr b, x] (t_law23_Act N) := ⟨_, rfl⟩
        obtain ⟨es', clk', u1, u2, u3⟩ := aMapupd_str (s := mkS a) (v := avStr tx) (c2 o) m2
        obtain ⟨H1, hH1, M1, k1, k3, hd1, kv, k4, k5⟩ := hi0.mset o es' clk'
        rw [← hH1] at u1
        obtain ⟨c, g, os, s1, s2, s3, s4, s5, _⟩ := Set_ok hs k1 (kv x tx hx) (s := a) (by omega) hse (by omega)
        have hd2 := HLe.wrote (hL.le s1) hd1
        simp only [Option.getD_some] at hd2
        have hsw := settle_wrote (H := H) (H' := g) (v := avBool true) hd2
        have M2 : Mut { l := H.l, d := none } g [p, m, mm] := M1.trans s3 (by simp)
        have hcb : VBytes g c tx := by
          rcases s4 with ⟨rfl, r2, rfl⟩ | ⟨id, rfl, rfl⟩
          · exact .inl (.inl ⟨rfl, r2⟩)
          · exact .inr ⟨id, 0, t_uint8 N, tx.map avByte, rfl, (s5 _ (List.mem_singleton.2 rfl)).1, by omega, List.take_of_length_le (by simp)⟩
        have hI := hi0.fin (turn' := turn + 1) (sm' := sPut a tx sm) (sm2' := sPut a tx sm2) (l' := vPut a c l) s2 (s3.get' k3 (by simp [ne, Ne.symm hnep])) u2 (by rw [u3, m3, bl_mkS, sA_put]) ((r2.keep fun y e hy => hi0.vb (by simp) M2.dd hy).put hcb) (sKeys_put_nodup nd) (sKeys_put_nodup nd2) (fun k => by rw [sFind_put, sFind_put, sme]) (sPut_len2 sme sln)
          (fun y hy => by rcases sPut_mem hy with rfl | hy; exact ⟨ha, htx, hna⟩; exact nm y hy) (nx_put nx (row_nx s4 s5 fun i hi => by have := xl i hi; have := M1.len; simp only at this; omega)) (Nat.le_trans M1.len s3.len) (dminO H.d g.d)
        refine ⟨some _, ?_, vPut a c l, sPut a tx sm, sPut a tx sm2, turn + 1, hI, M2.settled, by omega, by omega, sPut_len⟩
        apply hL.do'.call (by rfl)
        subst ho
        have hnf : ((sFind a sm).isSome = false → ¬ (256 : Int) ≤ sm.length) := fun h1 h2 => hfull ⟨h1, by omega⟩
        cases hf1 : (sFind a sm).isSome
        · have := hnf hf1
          simp [C_law23_do, hxo, q, ql, e1, hna, hf1, this, k4, k5, c3s, u1, s1, -hget_halloc]
          exact hsw
        · simp [C_law23_do, hxo, q, ql, e1, hna, hf1, k4, k5, c3s, u1, s1, -hget_halloc]
          exact hsw
    · have hna' : isNameB a = false := by simpa using hna
      have hse : setE a tx.length l = 7 := by unfold setE; rw [hna']; rfl
      have s1 := fun o => Set_err hs (c1 o) (c3 o) (s := a) (by omega) (by rw [hse]; decide)
      simp only [hse] at s1
      refine ⟨none, ?_, same _ rfl⟩
      apply hL.do'.call (by rfl)
      simp [C_law23_do, hxo, q, ql, e1, hna', s1, settle, keeps]
  · by_cases hk1 : k = 1
    · subst hk1
      obtain ⟨o, ho⟩ : ∃ o, o = AObj.cells [avInt .i64 1, avStr a, avStr b, x] (t_law23_Act N) := ⟨_, rfl⟩
      obtain ⟨es', u1, u2, u3⟩ := aDelete_str (s := mkS a) (c2 o) m2
      obtain ⟨H1, hH1, M1, k1, k3, hd1, kv, k4, k5⟩ := hi0.mset o es' clk
      rw [← hH1] at u1
      have u3' : KV es' = sA (sDel a sm2) := by rw [u3, m3, bl_mkS, sA_del]
      cases hf1 : (sFind a sm).isSome
      · have s1 := Delete_err hs k1 (s := a) (by rw [hsa, hf1])
        have hsw := settle_wrote (H := H) (H' := H1) (v := avBool true) hd1
        have hI := hi0.fin (turn' := turn) (sm' := sm) (sm2' := sm2) (l' := l) k1 k3 u2 (by rw [u3', sDel_none (by rw [sme]; exact hf1)]) (r2.keep kv) nd nd2 sme sln nm nx M1.len (dminO H.d H1.d)
        refine ⟨some _, ?_, l, sm, sm2, turn, hI, M1.settled, by omega, by omega, by omega⟩
        apply hL.do'.call (by rfl)
        subst ho
        simp [C_law23_do, hxo, q, ql, hf1, k4, k5, u1, s1, -hget_halloc]
        exact hsw
      · obtain ⟨g, s1, s2, s3⟩ := Delete_ok hs k1 (s := a) (by rw [hsa, hf1]) (by omega)
        have hd2 := HLe.wrote (hL.le s1) hd1
        simp only [Option.getD_some] at hd2
        have hsw := settle_wrote (H := H) (H' := g) (v := avBool true) hd2
        have M2 : Mut { l := H.l, d := none } g [p, m, mm] := M1.trans s3 (by simp)
        have hI := hi0.fin (turn' := turn + 1) (sm' := sDel a sm) (sm2' := sDel a sm2) (l' := vDel a l) s2 (s3.get' k3 (by simp [ne, Ne.symm hnep])) u2 u3' (r2.keep fun y e hy => hi0.vb (by simp) M2.dd hy).del (sKeys_del nd).1 (sKeys_del nd2).1 (fun k => by rw [sFind_del _ _ _ nd2, sFind_del _ _ _ nd, sme]) (sDel_len2 sme sln)
          (fun y hy => nm y (sDel_mem hy)) (nx_del nx) (Nat.le_trans M1.len s3.len) (dminO H.d g.d)
        refine ⟨some _, ?_, _, sDel a sm, sDel a sm2, turn + 1, hI, M2.settled, by omega, by omega, by have := sDel_len (k := a) (sm := sm); omega⟩
        apply hL.do'.call (by rfl)
        subst ho
        simp [C_law23_do, hxo, q, ql, hf1, k4, k5, u1, s1, -hget_halloc]
        exact hsw
    · cases hf1 : (sFind a sm).isSome
      · have hre : renE a b l = 13 := by unfold renE; rw [hsa, hf1]; rfl
        have s1 := fun o => Rename_err hs h2 (c1 o) (a := a) (b := b) (by omega) (by rw [hre]; decide)
        simp only [hre] at s1
        refine ⟨none, ?_, same _ rfl⟩
        apply hL.do'.call (by rfl)
        simp [C_law23_do, hxo, q, ql, hf1, hk0, hk1, s1, settle, keeps]
      · cases hnb : isNameB b
        · have hre : renE a b l = 7 := by unfold renE; rw [hsa, hf1, hnb]; rfl
          have s1 := fun o => Rename_err hs h2 (c1 o) (a := a) (b := b) (by omega) (by rw [hre]; decide)
          simp only [hre] at s1
          refine ⟨none, ?_, same _ rfl⟩
          apply hL.do'.call (by rfl)
          simp [C_law23_do, hxo, q, ql, e2, hf1, hnb, hk0, hk1, s1, settle, keeps]
        · cases hf2 : (sFind b sm).isSome
          · have hre : renE a b l = 0 := by unfold renE; rw [hsa, hsb, hf1, hnb, hf2]; rfl
            obtain ⟨v, hv⟩ := Option.isSome_iff_exists.1 hf1
            obtain ⟨o, ho⟩ : ∃ o, o = AObj.cells [avInt .i64 k, avStr a, avStr b, x] (t_law23_Act N) := ⟨_, rfl⟩
            obtain ⟨es', u1, u2, u3⟩ := aDelete_str (s := mkS a) (c2 o) m2
            have hg1 : ∀ c, hget (hset (halloc { l := H.l, d := none } o) mm (some (.map es' c))) mm = some (.map es' c) := fun c => by
              rw [hget_hset, if_pos rfl, if_pos (by simp; omega)]
            have hg2 : hget (hset (halloc { l := H.l, d := none } o) mm (some (.map es' clk))) H.l.length = some o := by
              rw [hget_hset, if_neg (by omega)]; simp
            obtain ⟨es'', clk'', v1, v2, v3⟩ := aMapupd_str (s := mkS b) (v := avStr v) (hg1 clk) u2
            have hss : hset (hset (halloc { l := H.l, d := none } o) mm (some (.map es' clk))) mm (some (.map es'' clk'')) = hset (halloc { l := H.l, d := none } o) mm (some (.map es'' clk'')) := by
              simp [hset, dmin]
            obtain ⟨H1, hH1, M1, k1, k3, hd1, kv, k4, k5⟩ := hi0.mset o es'' clk''
            rw [hss, ← hH1] at v1
            have v3' : KV es'' = sA (sPut b v (sDel a sm2)) := by rw [v3, u3, m3, bl_mkS, bl_mkS, sA_del, sA_put]
            obtain ⟨g, s1, s2, s3, _⟩ := Rename_ok hs h2 k1 (a := a) (b := b) (by omega) hre (by omega)
            have hd2 := HLe.wrote (hL.le s1) hd1
            simp only [Option.getD_some] at hd2
            have hsw := settle_wrote (H := H) (H' := g) (v := avBool true) hd2
            have M2 : Mut { l := H.l, d := none } g [p, m, mm] := M1.trans s3 (by simp)
            have r2g := r2.keep fun y e hy => hi0.vb (by simp) M2.dd hy
            have hvb := r2g.get a
            rw [hv] at hvb
            have hI := hi0.fin (turn' := turn + 1) (sm' := sPut b v (sDel a sm)) (sm2' := sPut b v (sDel a sm2)) s2 (s3.get' k3 (by simp [ne, Ne.symm hnep])) v2 v3' (r2g.del.put hvb) (sKeys_put_nodup (sKeys_del nd).1) (sKeys_put_nodup (sKeys_del nd2).1) (fun k => by rw [sFind_put, sFind_put, sFind_del _ _ _ nd2, sFind_del _ _ _ nd, sme]) (sPut_len2 (fun k => by rw [sFind_del _ _ _ nd2, sFind_del _ _ _ nd, sme]) (sDel_len2 sme sln))
              (fun y hy => by rcases sPut_mem hy with rfl | hy; exact ⟨hb, (nm _ (sFind_mem hv)).2.1, hnb⟩; exact nm y (sDel_mem hy)) (nx_put (nx_del nx) (nx_find nx)) (Nat.le_trans M1.len s3.len) (dminO H.d g.d)
            have hlen := sPut_len (k := b) (b := v) (sm := sDel a sm)
            have hlen2 := sDel_len (k := a) (sm := sm)
            refine ⟨some _, ?_, _, sPut b v (sDel a sm), sPut b v (sDel a sm2), turn + 1, hI, M2.settled, by omega, by omega, by omega⟩
            apply hL.do'.call (by rfl)
            subst ho
            simp [C_law23_do, hxo, q, ql, e2, hf1, hf2, hv, hnb, hk0, hk1, u1, k4, k5, hg2, v1, s1, -hget_hset, -hget_halloc]
            exact hsw
          · have hre : renE a b l = 8 := by unfold renE; rw [hsa, hsb, hf1, hnb, hf2]; rfl
            have s1 := fun o => Rename_err hs h2 (c1 o) (a := a) (b := b) (by omega) (by rw [hre]; decide)
            simp only [hre] at s1
            refine ⟨none, ?_, same _ rfl⟩
            apply hL.do'.call (by rfl)
            simp [C_law23_do, hxo, q, ql, e2, hf1, hf2, hnb, hk0, hk1, s1, settle, keeps]
end
end Go.Proofs.Eng
