/- The engine, part Y: from an abstract call that comes to true to what a row asks; bytes and numbers read. -/
import Derived.Test.YtkofnmiopjnhiaaEngX
import Derived.ProofKit
set_option linter.unusedVariables false
set_option linter.unusedSimpArgs false
namespace Go.Proofs.Eng
open Go Go.RowKit Go.ChangeShapes Go.WideShapes Go.ChangeAt

section
variable {P : Program} {W : World}

/-- The memory as the call finds it: nothing is owned, all reads as it stands. -/
noncomputable abbrev fz0 (W : World) : Fz := fzOf io0 [] W

theorem relH0 {PC : Code → AC → Prop} : RelH PC io0 [] W := ⟨rfl, fun i o p h => by simp at h, fun i j oi oj p q h => by simp at h, fun k hk => by simp at hk, fun k hk => by simp at hk⟩

theorem fzc0 (a : Addr) : fzc (fz0 W) a = W.cell? a := by
  have h : ∀ k, fz0 W k = W.heap[k]? := by
    intro k
    unfold fz0 fzOf
    rw [if_neg]
    rintro (⟨i, o, p, h, _⟩ | h)
    · simp at h
    · simp at h
  simp only [fzc, World.cell?, h]
  by_cases hs : a.spot.isSome = true
  · simp only [hs, if_true]
    split <;> rfl
  · simp only [hs, if_false, Bool.false_eq_true]
    rfl

theorem trodAll_stays {H : Type} {enc : TypeId × Value → H} (hl : laidOutB P = true) {W' : World} (hb : Below W.heap.size W W') : ∀ {ts : List TypeId} {vs : List Value} {ds : List (DataW H)} {ps : List MemPlace},
    (ts.all fun t => P.readableRec t && decide (t < P.types.size)) = true → DataW.TrodAll enc P W 0 (fun _ => true) true ts vs ds ps → (∀ x ∈ ps, x.block < W.heap.size) →
    DataW.TrodAll enc P W' 0 (fun b => decide (b < W.heap.size)) true ts vs ds ps
  | [], vs, ds, ps, _, h, _ => by
    obtain ⟨rfl, rfl, rfl⟩ := trodAll_nil h
    exact rfl
  | t :: ts, vs, ds, ps, hr, h, hlt => by
    obtain ⟨v, vs', d, ds', p, q, rfl, rfl, rfl, h1, h2⟩ := trodAll_cons h
    simp only [List.all_cons, Bool.and_eq_true, decide_eq_true_eq] at hr
    have a1 := Below.trod hl hr.1.1 hr.1.2 h1 hb (fun x hx => hlt x (by simp [hx]))
    have a2 := trodAll_stays hl hb (by simpa using hr.2) h2 (fun x hx => hlt x (by simp [hx]))
    exact ⟨p, q, a1, a2, rfl⟩

/-! ### Arguments read -/
def bytesAV (bs : List UInt8) : AV := .sl 1 (bs.map avByte)

end
end Go.Proofs.Eng
