/- Seat 5: the argument of the tree chapter's laws, read. -/
import Derived.Test.YtcmdnlpkplaapaaSA5b
set_option linter.unusedVariables false
set_option maxRecDepth 100000
namespace Go.Proofs.Y5b
open Go Go.Proofs.Eng
theorem max_lt : maxLen < 2 ^ 63 := by decide
theorem node_of {ys : List AV} (h : WT Try.prog 4 32 ys) : ∃ n : Nd, NdR { l := [], d := none } (.agg ys) n ∧ n.names.length < 2 ^ 63 := by
  have hm := max_lt
  obtain ⟨h6, h7⟩ := wt_fields Try.underlying32 h
  rw [show Try.prog.cellsOf 32 = 8 from by kernel_rfl] at h6
  obtain ⟨a, b, c, d, e, f, g, i, rfl⟩ : ∃ a b c d e f g i, ys = [a, b, c, d, e, f, g, i] := by
    match ys, h6 with
    | [a, b, c, d, e, f, g, i], _ => exact ⟨a, b, c, d, e, f, g, i, rfl⟩
  simp only [List.forall_mem_cons, show Try.prog.cellsOf 3 = 1 from by kernel_rfl, show Try.prog.cellsOf 9 = 1 from by kernel_rfl, show Try.prog.cellsOf 2 = 1 from by kernel_rfl, show Try.prog.cellsOf 28 = 1 from by kernel_rfl, show Try.prog.cellsOf 29 = 1 from by kernel_rfl, show Try.prog.cellsOf 30 = 1 from by kernel_rfl] at h7
  obtain ⟨f1, f2, f3, f4, f5, f6, f7, f8, _⟩ := h7
  obtain ⟨k1, rfl, _⟩ := wt_int Try.underlying3 f1
  obtain ⟨k2, rfl, _⟩ := wt_int Try.underlying3 f2
  obtain ⟨k3, rfl, _⟩ := wt_str Try.underlying9 f3
  obtain ⟨k4, rfl, _⟩ := wt_int Try.underlying2 f4
  obtain ⟨k5, rfl, _⟩ := wt_int Try.underlying28 f5
  obtain ⟨l1, q1, q2, _⟩ := wt_strs Try.underlying29 Try.underlying9 (by kernel_rfl) f6
  obtain ⟨l2, q3, _⟩ := wt_ints Try.underlying30 Try.underlying3 (by kernel_rfl) f7
  obtain ⟨l3, q4, _⟩ := wt_ints Try.underlying30 Try.underlying3 (by kernel_rfl) f8
  exact ⟨⟨k1, k2, k3, k4, k5, l1, l2, l3⟩, ⟨f, g, i, rfl, .inl q1, .inl q3, .inl q4⟩, by show l1.length < 2 ^ 63; omega⟩
theorem type_of {ys : List AV} (h : WT Try.prog 4 35 ys) : ∃ n : Ty, TyR { l := [], d := none } (.agg ys) n ∧ n.names.length < 2 ^ 63 := by
  have hm := max_lt
  obtain ⟨h6, h7⟩ := wt_fields Try.underlying35 h
  rw [show Try.prog.cellsOf 35 = 6 from by kernel_rfl] at h6
  obtain ⟨a, b, c, d, e, f, rfl⟩ : ∃ a b c d e f, ys = [a, b, c, d, e, f] := by
    match ys, h6 with
    | [a, b, c, d, e, f], _ => exact ⟨a, b, c, d, e, f, rfl⟩
  simp only [List.forall_mem_cons, show Try.prog.cellsOf 3 = 1 from by kernel_rfl, show Try.prog.cellsOf 9 = 1 from by kernel_rfl, show Try.prog.cellsOf 4 = 1 from by kernel_rfl, show Try.prog.cellsOf 29 = 1 from by kernel_rfl, show Try.prog.cellsOf 30 = 1 from by kernel_rfl] at h7
  obtain ⟨f1, f2, f3, f4, f5, f6, _⟩ := h7
  obtain ⟨k1, rfl, _⟩ := wt_int Try.underlying3 f1
  obtain ⟨k2, rfl, _⟩ := wt_int Try.underlying3 f2
  obtain ⟨k3, rfl, _⟩ := wt_str Try.underlying9 f3
  obtain ⟨l1, q1, q2, _⟩ := wt_strs Try.underlying29 Try.underlying9 (by kernel_rfl) f4
  obtain ⟨l2, q3, _⟩ := wt_ints Try.underlying30 Try.underlying3 (by kernel_rfl) f5
  obtain ⟨o, rfl⟩ := wt_bool Try.underlying4 f6
  exact ⟨⟨k1, k2, k3, l1, l2, o⟩, ⟨d, e, rfl, .inl q1, .inl q3⟩, by show l1.length < 2 ^ 63; omega⟩
theorem alias_of {ys : List AV} (h : WT Try.prog 4 57 ys) : ∃ n : Al, AV.agg ys = alV n := by
  obtain ⟨h6, h7⟩ := wt_fields Try.underlying57 h
  rw [show Try.prog.cellsOf 57 = 3 from by kernel_rfl] at h6
  obtain ⟨a, b, c, rfl⟩ : ∃ a b c, ys = [a, b, c] := by
    match ys, h6 with
    | [a, b, c], _ => exact ⟨a, b, c, rfl⟩
  simp only [List.forall_mem_cons, show Try.prog.cellsOf 3 = 1 from by kernel_rfl, show Try.prog.cellsOf 9 = 1 from by kernel_rfl] at h7
  obtain ⟨f1, f2, f3, _⟩ := h7
  obtain ⟨k1, rfl, _⟩ := wt_str Try.underlying9 f1
  obtain ⟨k2, rfl, _⟩ := wt_int Try.underlying3 f2
  obtain ⟨k3, rfl, _⟩ := wt_int Try.underlying3 f3
  exact ⟨⟨k1, k2, k3⟩, rfl⟩
end Go.Proofs.Y5b
