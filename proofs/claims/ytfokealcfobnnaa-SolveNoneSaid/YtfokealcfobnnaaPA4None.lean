/- The statement SolveNone holds: whatever the arguments, the law returns true, and they read as they did. No condition. -/
import Derived.Test.YtfokealcfobnnaaRows
import Derived.Test.YtfokealcfobnnaaSA4
import Derived.Test.YtfokealcfobnnaaM38
set_option linter.unusedVariables false
set_option maxRecDepth 100000
namespace Go.Proofs.Ytfokealcfobnnaa
open Go Go.ChangeShapes Go.WideShapes Go.ChangeAt Go.RowKit Go.Proofs.Eng Go.Proofs.Y4
open Go.ChangeMaps (open_string shut_string)

theorem own0 : ownKnob Try.prog.godebug = none := by kernel_rfl
theorem laid0 : laidOutB Try.prog = true := by kernel_rfl

theorem solveNone_lifted (os : Os) (started : os.Started) (H : Type) (enc : TypeId × Value → H) :
    ReturnsInHanded {} Try.checked os 3 .any (Rows.solveNoneSpec.pre6 enc Try.prog Try.f3 Rows.solveNoneRow.domain false) (Rows.solveNoneSpec.post enc Try.prog Try.f3 false true false false) := by
  refine returnsInHanded_of_change (C := Try.checked) own0 started (by kernel_rfl) Try.func3
    (ChangeSpec.witness6 (enc := enc) (C := Try.checked) false ⟨#[], #[.int .i64 0, .int .i64 0], []⟩ 8 (by kernel_rfl) (by kernel_rfl) (by kernel_rfl) (by kernel_rfl)) ?_
  intro W base args ds gs before hval0 hW hcnd _
  have hval : ∀ (j : Nat) t v, Try.f3.params[j]? = some t → args[j]? = some v → Value.okWide Try.prog W .any base t v := hval0
  have hW' := hW
  obtain ⟨p, q, hA0, hV, rfl, hfz, hnd⟩ := hW
  have hA : DataW.TrodAll enc Try.prog W 0 (fun _ => true) true Try.f3.params.toList args.toList ds p := hA0
  rw [Try.params3] at hA hval
  obtain ⟨v0, v1, d0, d1, p0, p1, rfl, rfl, rfl, h0, h1⟩ := trodAll_two hA
  obtain ⟨rfl, rfl⟩ := trodVars_none hV
  obtain ⟨n0, rfl, rfl, rfl, w0⟩ := open_int Try.underlying3 (hval 0 3 v0 rfl rfl) h0
  obtain ⟨n1, rfl, rfl, rfl, w1⟩ := open_int Try.underlying3 (hval 1 3 v1 rfl rfl) h1
  exact law_lim (P := Try.prog) gamok tab_ok laid0 rfl rfl Try.underlying4 (by kernel_rfl) hW' ⟨rfl, rfl, rfl⟩ (xs := [.lit (.int .i64 n0), .lit (.int .i64 n1)]) (by simp only [VRels_cons, VRels_nil, and_true]; exact ⟨(by simp only [VRel]), (by simp only [VRel])⟩) (law_SolveNone (hasR tab_solve_New (by kernel_rfl)) (hasR tab_p_solve_Solver_Claim (by kernel_rfl)) (hasR tab_p_solve_Solver_Claims (by kernel_rfl)) (hasR tab_p_solve_Solver_Clash (by kernel_rfl)) (hasR tab_law13_SolveNone (by kernel_rfl)) lives_13 n0 n1)

theorem solveNone_holds : Rows.SolveNoneSaid :=
  OpenClaim.holds_of_wide 3 Try.f3 rfl rfl rfl rfl rfl rfl rfl ⟨rfl, rfl, rfl, rfl, rfl⟩ rfl rfl rfl rfl rfl (by kernel_rfl) Try.func3 (by kernel_rfl)
    (of_decide_eq_true (by kernel_rfl)) (by unfold Func.isWrapper; first | (rw [if_pos (by decide +kernel)]; kernel_rfl) | (rw [if_neg (by decide +kernel)]; exact ⟨rfl, rfl⟩))
    (fun os started H enc _ => solveNone_lifted os started H enc)
#print axioms solveNone_holds
end Go.Proofs.Ytfokealcfobnnaa
