/- The engine, part AM: arguments of any plain type, as one value. -/
import Derived.Test.YtkofnmiopjnhiaaEngAJ
set_option linter.unusedVariables false
set_option linter.unusedSimpArgs false
namespace Go.Proofs.Eng
open Go Go.RowKit Go.ChangeShapes Go.WideShapes Go.ChangeAt
section
variable {P : Program} {W : World}
/-- A slice of plain elements. -/
theorem read_wsl {H : Type} {enc : TypeId × Value → H} {r : Reach} {b0 : Nat} {t e : TypeId} {v : Value} {d : DataW H} {p : List MemPlace} (n : Nat) (ht : P.underlying t = some (.slice e)) (ho : okT P n t = true)
    (hv : Value.okWide P W r b0 t v) (h : DataW.Trod enc P W 0 (fun _ => true) true t v d p) : ∃ x, VRel io0 (fz0 W) x v ∧ WT P n t [x] := by
  obtain ⟨a, ln, cp, rfl⟩ := okWide_slice ht hv
  obtain ⟨fuel, hf⟩ := h
  obtain ⟨xs, h1, h2⟩ := trod_read n hf ho
  have h3 : xs.length = 1 := by rw [VRels_length h1]; rfl
  cases xs with
  | nil => simp at h3
  | cons x r =>
    cases r with
    | cons _ _ => simp at h3
    | nil =>
      refine ⟨x, ?_, h2⟩
      have : (Value.slice a ln cp).cells.toList = [Value.slice a ln cp] := rfl
      rw [this] at h1
      simp only [VRels_cons, VRels_nil, and_true] at h1
      exact h1
theorem wt_str {n : Nat} {t : TypeId} {y : AV} (ht : P.underlying t = some .string) (h : WT P (n + 1) t [y]) : ∃ s : List UInt8, y = avStr s ∧ s.length ≤ maxLen := by
  unfold WT at h
  rw [ht] at h
  obtain ⟨m, h1, h2⟩ := h
  exact ⟨m, by simpa using h1, h2⟩
/-- A slice of one-celled elements. -/
theorem wt_row {n : Nat} {t e : TypeId} {y : AV} (ht : P.underlying t = some (.slice e)) (hc : P.cellsOf e = 1) (hl : ∀ z : AV, elemA P e [z] = z) (h : WT P (n + 1) t [y]) : ∃ l : List AV, Fzr 1 y l ∧ l.length ≤ maxLen ∧ ∀ z ∈ l, WT P n e [z] := by
  unfold WT at h
  rw [ht] at h
  rcases h with h | ⟨yss, h1, h2, h3⟩
  · exact ⟨[], .inl ⟨by simpa using h, rfl⟩, by simp, by simp⟩
  · rw [hc] at h1
    refine ⟨yss.map (elemA P e), .inr (by simpa using h1), by simpa using h2, fun z hz => ?_⟩
    obtain ⟨ys, hy, rfl⟩ := List.mem_map.1 hz
    obtain ⟨h4, h5⟩ := h3 ys hy
    rw [hc] at h4
    cases ys with
    | nil => simp at h4
    | cons u r =>
      cases r with
      | cons _ _ => simp at h4
      | nil => rw [hl]; exact h5
theorem elemA_one {e : TypeId} (h : (match P.underlying e with | some (.struct _) => false | some (.array _ _) => false | _ => true) = true) (z : AV) : elemA P e [z] = z := by
  unfold elemA
  cases hu : P.underlying e with
  | none => rfl
  | some d =>
    rw [hu] at h
    cases d <;> first | rfl | (simp at h)
theorem map_of {α β : Type} {f : β → α} {Q : β → Prop} : ∀ {l : List α}, (∀ z ∈ l, ∃ b, z = f b ∧ Q b) → ∃ l' : List β, l = l'.map f ∧ ∀ b ∈ l', Q b
  | [], _ => ⟨[], rfl, by simp⟩
  | a :: r, h => by
    obtain ⟨b, rfl, hb⟩ := h a (by simp)
    obtain ⟨l', rfl, hl⟩ := map_of (l := r) fun z hz => h z (by simp [hz])
    exact ⟨b :: l', rfl, by intro c hc; rcases List.mem_cons.1 hc with rfl | hc; exact hb; exact hl c hc⟩
theorem wt_strs {n : Nat} {t e : TypeId} {y : AV} (ht : P.underlying t = some (.slice e)) (he : P.underlying e = some .string) (hc : P.cellsOf e = 1) (h : WT P (n + 2) t [y]) : ∃ l : List (List UInt8), Fzr 1 y (l.map avStr) ∧ l.length ≤ maxLen ∧ ∀ s ∈ l, s.length ≤ maxLen := by
  obtain ⟨l, h1, h2, h3⟩ := wt_row ht hc (elemA_one (by rw [he])) h
  obtain ⟨l', rfl, h4⟩ := map_of (f := avStr) (Q := fun s => s.length ≤ maxLen) fun z hz => wt_str he (h3 z hz)
  exact ⟨l', h1, by simpa using h2, h4⟩
/-- A slice of structs. -/
theorem wt_structs {n : Nat} {t e : TypeId} {fs : Array Field} {y : AV} (ht : P.underlying t = some (.slice e)) (he : P.underlying e = some (.struct fs)) (h : WT P (n + 1) t [y]) : ∃ l : List (List AV), Fzr (P.cellsOf e) y (l.map .agg) ∧ l.length ≤ maxLen ∧ ∀ ys ∈ l, ys.length = P.cellsOf e ∧ WT P n e ys := by
  unfold WT at h
  rw [ht] at h
  rcases h with h | ⟨yss, h1, h2, h3⟩
  · exact ⟨[], .inl ⟨by simpa using h, rfl⟩, by simp, by simp⟩
  · have : elemA P e = AV.agg := by funext ys; unfold elemA; rw [he]
    rw [this] at h1
    exact ⟨yss, .inr (by simpa using h1), h2, h3⟩
theorem wt_fields {n : Nat} {t : TypeId} {fs : Array Field} {ys : List AV} (ht : P.underlying t = some (.struct fs)) (h : WT P (n + 1) t ys) : ys.length = P.cellsOf t ∧ ∀ f ∈ fs.toList, WT P n f.type ((ys.drop f.offset).take (P.cellsOf f.type)) := by
  unfold WT at h
  rw [ht] at h
  exact h
end
end Go.Proofs.Eng
