/- The statement RunesEncodes holds: whatever the arguments, the law returns true, and they read as they did. No condition. -/
import Derived.Test.YtombplnoeikhoaaRows
import Derived.Test.YtombplnoeikhoaaSA1
set_option linter.unusedVariables false
set_option maxRecDepth 100000
namespace Go.Proofs.Ytombplnoeikhoaa
open Go Go.ChangeShapes Go.WideShapes Go.ChangeAt Go.RowKit Go.Proofs.Eng Go.Proofs.Y1
open Go.ChangeMaps (open_string shut_string)

theorem own0 : ownKnob Try.prog.godebug = none := by kernel_rfl
theorem laid0 : laidOutB Try.prog = true := by kernel_rfl

theorem runesEncodes_lifted (os : Os) (started : os.Started) (H : Type) (enc : TypeId × Value → H) :
    ReturnsInHanded {} Try.checked os 7 .any (Rows.runesEncodesSpec.pre6 enc Try.prog Try.f7 Rows.runesEncodesRow.domain false) (Rows.runesEncodesSpec.post enc Try.prog Try.f7 false true false false) := by
  refine returnsInHanded_of_change (C := Try.checked) own0 started (by kernel_rfl) Try.func7
    (ChangeSpec.witness6 (enc := enc) (C := Try.checked) false ⟨#[], #[.int .i32 0], []⟩ 8 (by kernel_rfl) (by kernel_rfl) (by kernel_rfl) (by kernel_rfl)) ?_
  intro W base args ds gs before hval0 hW hcnd _
  have hval : ∀ (j : Nat) t v, Try.f7.params[j]? = some t → args[j]? = some v → Value.okWide Try.prog W .any base t v := hval0
  have hW' := hW
  obtain ⟨p, q, hA0, hV, rfl, hfz, hnd⟩ := hW
  have hA : DataW.TrodAll enc Try.prog W 0 (fun _ => true) true Try.f7.params.toList args.toList ds p := hA0
  rw [Try.params7] at hA hval
  obtain ⟨v0, d0, rfl, rfl, h0⟩ := trodAll_one hA
  obtain ⟨rfl, rfl⟩ := trodVars_none hV
  obtain ⟨n0, rfl, rfl, rfl, w0⟩ := open_int Try.underlying21 (hval 0 21 v0 rfl rfl) h0
  exact law_lim (P := Try.prog) (noG_ok _) tab_ok laid0 rfl rfl Try.underlying4 (by kernel_rfl) hW' ⟨rfl, rfl, rfl⟩ (xs := [.lit (.int .i32 n0)]) (by simp only [VRels_cons, VRels_nil, and_true]; exact (by simp only [VRel])) (law_RunesEncodes hasRunes (has tab_runes_Encode) (has tab_ref01_Encode) (has tab_law01_RunesEncodes) n0 (lives_rb n0) (int32_bound w0))

theorem runesEncodes_holds : Rows.RunesEncodesSaid :=
  OpenClaim.holds_of_wide 7 Try.f7 rfl rfl rfl rfl rfl rfl rfl ⟨rfl, rfl, rfl, rfl, rfl⟩ rfl rfl rfl rfl rfl (by kernel_rfl) Try.func7 (by kernel_rfl)
    (of_decide_eq_true (by kernel_rfl)) (by unfold Func.isWrapper; first | (rw [if_pos (by decide +kernel)]; kernel_rfl) | (rw [if_neg (by decide +kernel)]; exact ⟨rfl, rfl⟩))
    (fun os started H enc _ => runesEncodes_lifted os started H enc)
#print axioms runesEncodes_holds
end Go.Proofs.Ytombplnoeikhoaa
