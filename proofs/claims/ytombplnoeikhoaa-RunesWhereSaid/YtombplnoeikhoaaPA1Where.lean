/- The statement RunesWhere holds: whatever the arguments, the law returns true, and they read as they did. No condition. -/
import Derived.Test.YtombplnoeikhoaaRows
import Derived.Test.YtombplnoeikhoaaSA1
set_option linter.unusedVariables false
set_option maxRecDepth 100000
namespace Go.Proofs.Ytombplnoeikhoaa
open Go Go.ChangeShapes Go.WideShapes Go.ChangeAt Go.RowKit Go.Proofs.Eng Go.Proofs.Y1
open Go.ChangeMaps (open_string shut_string)

theorem own0 : ownKnob Try.prog.godebug = none := by kernel_rfl
theorem laid0 : laidOutB Try.prog = true := by kernel_rfl

theorem runesWhere_lifted (os : Os) (started : os.Started) (H : Type) (enc : TypeId × Value → H) :
    ReturnsInHanded {} Try.checked os 3 .any (Rows.runesWhereSpec.pre6 enc Try.prog Try.f3 Rows.runesWhereRow.domain false) (Rows.runesWhereSpec.post enc Try.prog Try.f3 false true false false) := by
  refine returnsInHanded_of_change (C := Try.checked) own0 started (by kernel_rfl) Try.func3
    (ChangeSpec.witness6 (enc := enc) (C := Try.checked) false ⟨#[], #[.slice none 0 0, .int .i64 0], []⟩ 8 (by kernel_rfl) (by kernel_rfl) (by kernel_rfl) (by kernel_rfl)) ?_
  intro W base args ds gs before hval0 hW hcnd _
  have hval : ∀ (j : Nat) t v, Try.f3.params[j]? = some t → args[j]? = some v → Value.okWide Try.prog W .any base t v := hval0
  have hW' := hW
  obtain ⟨p, q, hA0, hV, rfl, hfz, hnd⟩ := hW
  have hA : DataW.TrodAll enc Try.prog W 0 (fun _ => true) true Try.f3.params.toList args.toList ds p := hA0
  rw [Try.params3] at hA hval
  obtain ⟨v0, v1, d0, d1, p0, p1, rfl, rfl, rfl, h0, h1⟩ := trodAll_two hA
  obtain ⟨rfl, rfl⟩ := trodVars_none hV
  obtain ⟨x0, b0, hr0, hl0, hx0⟩ := read_bytes' Try.underlying22 Try.underlying5 (by kernel_rfl) (hval 0 22 v0 rfl rfl) h0
  obtain ⟨n1, rfl, rfl, rfl, w1⟩ := open_int Try.underlying3 (hval 1 3 v1 rfl rfl) h1
  exact law_lim (P := Try.prog) (noG_ok _) tab_ok laid0 rfl rfl Try.underlying4 (by kernel_rfl) hW' ⟨rfl, rfl, rfl⟩ (xs := [x0, .lit (.int .i64 n1)]) (by simp only [VRels_cons, VRels_nil, and_true]; exact ⟨hr0, (by simp only [VRel])⟩) (law_RunesWhere hasRunes hasRef01 (has tab_runes_Where) (has tab_runes_Where_1) (has tab_ref01_Where) (has tab_law01_RunesWhere) lives_0 n1 x0 b0 hx0)

theorem runesWhere_holds : Rows.RunesWhereSaid :=
  OpenClaim.holds_of_wide 3 Try.f3 rfl rfl rfl rfl rfl rfl rfl ⟨rfl, rfl, rfl, rfl, rfl⟩ rfl rfl rfl rfl rfl (by kernel_rfl) Try.func3 (by kernel_rfl)
    (of_decide_eq_true (by kernel_rfl)) (by unfold Func.isWrapper; first | (rw [if_pos (by decide +kernel)]; kernel_rfl) | (rw [if_neg (by decide +kernel)]; exact ⟨rfl, rfl⟩))
    (fun os started H enc _ => runesWhere_lifted os started H enc)
#print axioms runesWhere_holds
end Go.Proofs.Ytombplnoeikhoaa
