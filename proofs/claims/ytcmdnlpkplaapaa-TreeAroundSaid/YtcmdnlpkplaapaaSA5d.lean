/- Seat 5: the argument of the tree chapter's laws, the whole. -/
import Derived.Test.YtcmdnlpkplaapaaSA5c
set_option linter.unusedVariables false
set_option maxRecDepth 100000
namespace Go.Proofs.Y5b
open Go Go.Proofs.Eng
theorem pick {α β : Type} {Q : α → β → Prop} : ∀ {l : List α}, (∀ z ∈ l, ∃ n, Q z n) → ∃ ns : List β, ns.length = l.length ∧ ∀ (i : Nat) (z : α) (n : β), l[i]? = some z → ns[i]? = some n → Q z n
  | [], _ => ⟨[], rfl, fun i z n h => by simp at h⟩
  | a :: l, h => by
    obtain ⟨n, hn⟩ := h a (by simp)
    obtain ⟨ns, h1, h2⟩ := pick (l := l) fun z hz => h z (by simp [hz])
    refine ⟨n :: ns, by simp [h1], fun i z m hz hm => ?_⟩
    cases i with
    | zero => simp at hz hm; subst hz; subst hm; exact hn
    | succ i => simp at hz hm; exact h2 i z m hz hm
theorem rows_of {α : Type} {Q : Hp → AV → α → Prop} {sz : Nat} {x : AV} {l : List (List AV)} {p : α → Prop} (h : Fzr sz x (l.map .agg)) (hq : ∀ ys ∈ l, ∃ n, Q { l := [], d := none } (.agg ys) n ∧ p n) : ∃ ns : List α, RowR Q sz { l := [], d := none } x ns ∧ ns.length = l.length ∧ ∀ n ∈ ns, p n := by
  obtain ⟨ns, h1, h2⟩ := pick hq
  refine ⟨ns, ⟨l.map .agg, .inl h, by simp [h1], fun i y n hy hn => ?_⟩, h1, fun n hn => ?_⟩
  · rw [List.getElem?_map] at hy
    cases hz : l[i]? with
    | none => rw [hz] at hy; simp at hy
    | some z =>
      rw [hz] at hy
      simp at hy
      subst hy
      exact (h2 i z n hz hn).1
  · obtain ⟨i, hi, rfl⟩ := List.mem_iff_getElem.1 hn
    exact (h2 i (l[i]'(by omega)) ns[i] (List.getElem?_eq_getElem _) (List.getElem?_eq_getElem _)).2
theorem tree_of {xs : List AV} (h : WT Try.prog 6 40 xs) : ∃ a b c t, xs = [a, b, c] ∧ TrR { l := [], d := none } (.agg [a, b, c]) t ∧ ((∀ n ∈ t.nodes, n.names.length < 2 ^ 63) ∧ ∀ n ∈ t.types, n.names.length < 2 ^ 63) ∧ (t.nodes.length < 2 ^ 63 ∧ t.types.length < 2 ^ 63 ∧ t.als.length < 2 ^ 63) := by
  have hm := max_lt
  obtain ⟨h6, h7⟩ := wt_fields Try.underlying40 h
  rw [show Try.prog.cellsOf 40 = 3 from by kernel_rfl] at h6
  obtain ⟨a, b, c, rfl⟩ : ∃ a b c, xs = [a, b, c] := by
    match xs, h6 with
    | [a, b, c], _ => exact ⟨a, b, c, rfl⟩
  simp only [List.forall_mem_cons, show Try.prog.cellsOf 36 = 1 from by kernel_rfl, show Try.prog.cellsOf 37 = 1 from by kernel_rfl, show Try.prog.cellsOf 38 = 1 from by kernel_rfl] at h7
  obtain ⟨f1, f2, f3, _⟩ := h7
  obtain ⟨l1, p1, p2, p3⟩ := wt_structs Try.underlying36 Try.underlying32 f1
  obtain ⟨l2, q1, q2, q3⟩ := wt_structs Try.underlying37 Try.underlying35 f2
  obtain ⟨l3, r1, r2, r3⟩ := wt_structs Try.underlying38 Try.underlying57 f3
  rw [show Try.prog.cellsOf 32 = 8 from by kernel_rfl] at p1
  rw [show Try.prog.cellsOf 35 = 6 from by kernel_rfl] at q1
  rw [show Try.prog.cellsOf 57 = 3 from by kernel_rfl] at r1
  obtain ⟨nd, u1, u2, u3⟩ := rows_of (Q := NdR) (p := fun n => n.names.length < 2 ^ 63) p1 fun ys hy => node_of (p3 ys hy).2
  obtain ⟨ty, v1, v2, v3⟩ := rows_of (Q := TyR) (p := fun n => n.names.length < 2 ^ 63) q1 fun ys hy => type_of (q3 ys hy).2
  obtain ⟨al, w1, w2, _⟩ := rows_of (Q := AlR) (p := fun _ => True) r1 fun ys hy => by obtain ⟨n, hn⟩ := alias_of (r3 ys hy).2; exact ⟨n, hn, trivial⟩
  exact ⟨a, b, c, ⟨nd, ty, al⟩, rfl, ⟨a, b, c, rfl, u1, v1, w1⟩, ⟨u3, v3⟩, by simp only; omega⟩
end Go.Proofs.Y5b
