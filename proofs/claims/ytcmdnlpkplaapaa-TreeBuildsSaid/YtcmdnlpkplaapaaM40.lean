import Derived.Test.YtcmdnlpkplaapaaEngAK
import Derived.Test.YtcmdnlpkplaapaaM37
import Derived.Test.YtcmdnlpkplaapaaEngAH
import Derived.Test.YtcmdnlpkplaapaaM32
/- Two maps with texts for keys, held against each other: one of rows of bytes, one of texts. -/
set_option linter.unusedVariables false
set_option linter.unusedSimpArgs false
set_option maxRecDepth 100000
namespace Go.Proofs.Eng
open Go

def kpos (k : List UInt8) : List (List UInt8) → Option Nat
  | [] => none
  | x :: r => if k = x then some 0 else (kpos k r).map (· + 1)
theorem kpos_lt {k : List UInt8} : ∀ {l : List (List UInt8)} {i : Nat}, kpos k l = some i → l[i]? = some k
  | [], i, h => by simp [kpos] at h
  | x :: r, i, h => by
    simp only [kpos] at h
    split at h
    · rename_i e; simp only [Option.some.injEq] at h; subst h; subst e; rfl
    · obtain ⟨j, hj, rfl⟩ := Option.map_eq_some_iff.1 h
      simpa using kpos_lt hj
theorem vFind_kpos (k : List UInt8) : ∀ l : List (List UInt8 × AV), vFind k l = (kpos k (l.map Prod.fst)).bind fun i => (l[i]?).map fun e => (i, e.2)
  | [] => rfl
  | x :: r => by
    simp only [vFind, List.map_cons, kpos]
    split
    · rename_i e; rfl
    · rw [vFind_kpos k r]
      cases kpos k (r.map Prod.fst) with
      | none => rfl
      | some i => simp only [Option.bind_some, Option.map_some, List.getElem?_cons_succ]; cases r[i]? <;> rfl

/-- A model's map: texts by texts. -/
abbrev SM := List (List UInt8 × List UInt8)
def sKeys (sm : SM) : List (List UInt8) := sm.map Prod.fst
def sFind (k : List UInt8) (sm : SM) : Option (List UInt8) := (kpos k (sKeys sm)).bind fun i => (sm[i]?).map Prod.snd
def sPut (k b : List UInt8) (sm : SM) : SM := match kpos k (sKeys sm) with
  | some i => sm.modify i fun _ => (k, b)
  | none => sm ++ [(k, b)]
theorem kpos_some {k : List UInt8} {sm : SM} {i : Nat} (h : kpos k (sKeys sm) = some i) : ∃ b, sm[i]? = some (k, b) ∧ i < sm.length := by
  have := kpos_lt h
  simp only [sKeys, List.getElem?_map, Option.map_eq_some_iff] at this
  obtain ⟨⟨a, b⟩, h1, rfl⟩ := this
  exact ⟨b, h1, (List.getElem?_eq_some_iff.1 h1).1⟩
/-- A map of rows of bytes, laid in a heap, has the texts of a model's map. -/
def R2 (H : Hp) (l : List (List UInt8 × AV)) (sm : SM) : Prop := l.map Prod.fst = sKeys sm ∧ ∀ (i : Nat) (x : List UInt8 × AV) (y : List UInt8 × List UInt8), l[i]? = some x → sm[i]? = some y → VBytes H x.2 y.2
namespace R2
variable {H H' : Hp} {l : List (List UInt8 × AV)} {sm : SM} {k b : List UInt8} {c : AV}
theorem nil : R2 H [] [] := ⟨rfl, by simp⟩
theorem len (h : R2 H l sm) : l.length = sm.length := by
  have := congrArg List.length h.1
  simpa [sKeys] using this
theorem keep (h : R2 H l sm) (k : ∀ x es, VBytes H x es → VBytes H' x es) : R2 H' l sm := ⟨h.1, fun i x y hx hy => k _ _ (h.2 i x y hx hy)⟩
theorem isSome (h : R2 H l sm) (k : List UInt8) : (vFind k l).isSome = (sFind k sm).isSome := by
  rw [vFind_kpos, h.1]
  unfold sFind
  cases hk : kpos k (sKeys sm) with
  | none => rfl
  | some i =>
    obtain ⟨c, hc, hi⟩ := kpos_some hk
    have hi2 : i < l.length := by rw [h.len]; exact hi
    simp [hc, List.getElem?_eq_getElem hi2]
theorem get (h : R2 H l sm) (k : List UInt8) : VBytes H (((vFind k l).map Prod.snd).getD avNilS) ((sFind k sm).getD []) := by
  rw [vFind_kpos, h.1]
  unfold sFind
  cases hk : kpos k (sKeys sm) with
  | none => exact .inl (.inl ⟨rfl, rfl⟩)
  | some i =>
    obtain ⟨c, hc, hi⟩ := kpos_some hk
    have hi2 : i < l.length := by rw [h.len]; exact hi
    have := h.2 i _ _ (List.getElem?_eq_getElem hi2) hc
    simpa [hc, List.getElem?_eq_getElem hi2] using this
theorem put (h : R2 H l sm) (hc : VBytes H c b) : R2 H (vPut k c l) (sPut k b sm) := by
  unfold vPut sPut
  rw [vFind_kpos, h.1]
  cases hk : kpos k (sKeys sm) with
  | none =>
    simp only [Option.bind_none]
    refine ⟨by simp [h.1, sKeys], fun i x y hx hy => ?_⟩
    by_cases hi : i < l.length
    · rw [List.getElem?_append_left hi] at hx
      rw [List.getElem?_append_left (by rw [← h.len]; exact hi)] at hy
      exact h.2 i x y hx hy
    · rw [List.getElem?_append_right (by omega)] at hx
      rw [List.getElem?_append_right (by rw [← h.len]; omega), ← h.len] at hy
      have h0 : i - l.length = 0 := by have := (List.getElem?_eq_some_iff.1 hx).1; simp at this; omega
      rw [h0] at hx hy
      simp at hx hy
      subst hx; subst hy; exact hc
  | some i =>
    obtain ⟨c', hc', hi⟩ := kpos_some hk
    have hi2 : i < l.length := by rw [h.len]; exact hi
    simp only [Option.bind_some, List.getElem?_eq_getElem hi2, Option.map_some]
    refine ⟨?_, fun j x y hx hy => ?_⟩
    · apply List.ext_getElem?
      intro j
      have hj : (l.map Prod.fst)[j]? = (sKeys sm)[j]? := by rw [h.1]
      simp only [sKeys, List.getElem?_map, List.getElem?_modify] at hj ⊢
      by_cases hij : i = j
      · subst hij; simp [List.getElem?_eq_getElem hi2, hc']
      · simp only [hij, if_false]
        cases h1 : l[j]? <;> cases h2 : sm[j]? <;> simp [h1, h2] at hj ⊢
        exact hj
    · rw [List.getElem?_modify] at hx hy
      cases h1 : l[j]? with
      | none => rw [h1] at hx; simp at hx
      | some u =>
        cases h2 : sm[j]? with
        | none => rw [h2] at hy; simp at hy
        | some v =>
          rw [h1] at hx; rw [h2] at hy
          by_cases hij : i = j
          · simp [hij] at hx hy; subst hx; subst hy; exact hc
          · simp [hij] at hx hy
            subst hx; subst hy; exact h.2 j u v h1 h2
end R2

/-! ### Sorted keys -/
end Go.Proofs.Eng
/- Templates of functions, as the engine takes them; numbers of functions and types by names. Printed by tm.py. -/
set_option linter.unusedVariables false
set_option maxRecDepth 100000
namespace Go.Proofs.Eng
open Go

end Go.Proofs.Eng
/- The store's functions, second part: Rename, Text, Len, Turn, All. -/
set_option linter.unusedVariables false
set_option linter.unusedSimpArgs false
set_option maxRecDepth 100000
namespace Go.Proofs.Eng
open Go
section
variable {Γ : Sums} {A : Tab} {N : Nat → Nat}

end
end Go.Proofs.Eng
/- The row of a tree's terms, run by the engine: the iterator of a row read backward. -/
set_option linter.unusedVariables false
set_option linter.unusedSimpArgs false
set_option maxRecDepth 100000
namespace Go.Proofs.Eng
open Go
section
variable {Γ : Sums} {A : Tab} {N : Nat → Nat}
theorem Vw.cg {H : Hp} {sz : Nat} {x : AV} {es : List AV} (h : Vw H sz x es) : x.cells = [x] ∧ x.good = true := by
  rcases h with (⟨rfl, _⟩ | rfl) | ⟨id, off, e, all, rfl, _⟩ <;> exact ⟨rfl, rfl⟩
end
end Go.Proofs.Eng
