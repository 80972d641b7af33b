/- The engine, part AL: the summary of sorted keys, where the two layings are numbered apart; calls grow the heap. -/
import Derived.Test.YtkofnmiopjnhiaaEngAH
set_option linter.unusedVariables false
set_option linter.unusedSimpArgs false
namespace Go.Proofs.Eng
open Go Go.RowKit Go.Shelf
theorem sortedOK_of2 {P : Program} {ρ κ μ : Ren} (L6 : SlLaysZ.n6 P ρ) (L10 : SlLaysZ.n10 P κ) (M : SlLaysM.n6 P μ) (h9 : ρ.f 9 = μ.f 6) (ht : κ.t 26 = ρ.t 26) : SortedOK P (ρ.f 6) (κ.f 10) (ρ.t 26) := by
  have hs : AnyZ.SortsIn P ρ Fence.wide (4 - 1) := by
    refine ⟨fun blk off cap ss W hH hb hl => ?_, fun p cap W => ?_⟩
    · rw [h9]; exact callsIn_wide.2 (AnyM.slices_Sort_string M blk off cap ss W hH hb hl)
    · rw [h9]; exact callsIn_wide.2 (AnyM.slices_Sort_string_none M p cap W)
  have e6 : ∀ args w, (callFunc (ρ.f 6) args).run P w = .ok (.enter (ρ.f 6) args) w := L6.f6.enters rfl
  have e9 : ∀ args w, (callFunc (ρ.f 9) args).run P w = .ok (.enter (ρ.f 9) args) w := by rw [h9]; exact M.f6.enters rfl
  have e10 : ∀ args w, (callFunc (κ.f 10) args).run P w = .ok (.enter (κ.f 10) args) w := L10.f10.enters rfl
  refine ⟨e6, by rw [← ht]; exact L10.t26, fun Bm b nn D0 R w hB hm ho h1 h2 => ?_, fun Bm w hB hm => ?_⟩
  · have hg := AnyZ.keys_gives L10 Fence.wide (4 - 1 - 1 - 1) trivial rfl (by omega) Bm b nn D0 w hB hm (by rw [ht]; exact ho)
    exact callsIn_wide.1 (AnyZ.sorted_in L6 Fence.wide 4 trivial trivial trivial trivial rfl (by omega) hs e9 (κ.f 10) _ trivial e10 _ (Maps.size D0) h1 h2 w hg)
  · have hg := AnyZ.keys_gives_nil L10 Fence.wide (4 - 1 - 1 - 1) trivial rfl Bm w hB hm
    exact callsIn_wide.1 (AnyZ.sorted_in L6 Fence.wide 4 trivial trivial trivial trivial rfl (by omega) hs e9 (κ.f 10) _ trivial e10 _ 0 (by omega) (by omega) w hg)
/-- The summary, at a call. -/
theorem gSorted_call {fS fK tS : Nat} {H : Hp} {id mid clk : Nat} {t : TypeId} {es : List (Value × AV × Nat)} (h1 : hget H id = some (.cells [.map mid] t)) (h2 : hget H mid = some (.map es clk)) {ks : List (List UInt8)} (hk : keysB es = some ks) (hl : es.length < 2 ^ 36) :
    gSorted fS fK tS fS [.fn fK [] [.ptr id 0]] H = some (sortedR H tS ks) := by
  have hlen : ∀ {es : List (Value × AV × Nat)} {ks}, keysB es = some ks → ks.length = es.length := by
    intro es
    induction es with
    | nil => intro ks h; simp only [keysB, Option.some.injEq] at h; subst h; rfl
    | cons e r ih =>
      intro ks h
      simp only [keysB] at h
      split at h
      · split at h
        · obtain ⟨k, hk, rfl⟩ := Option.map_eq_some_iff.1 h
          simp [ih hk]
        · simp at h
      · simp at h
  have := hlen hk
  simp only [gSorted, if_true, h1, h2, hk]
  rw [if_pos ⟨by simp [maxLen]; omega, by omega⟩]
end Go.Proofs.Eng
