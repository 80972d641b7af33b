/- The statement LiftRefuses holds: whatever the arguments, the law returns true, and they read as they did. No condition. -/
import Derived.Test.YtfokealcfobnnaaGreatRows
import Derived.Test.YtfokealcfobnnaaGreatLLift
set_option linter.unusedVariables false
set_option maxRecDepth 100000
namespace Go.Proofs.YtfokealcfobnnaaGreat
open Go Go.ChangeShapes Go.WideShapes Go.ChangeAt Go.RowKit Go.Proofs.Eng Go.Proofs.Y4z
open Go.ChangeMaps (open_string shut_string)

theorem own0 : ownKnob Tryz.prog.godebug = none := by kernel_rfl
theorem laid0 : laidOutB Tryz.prog = true := by kernel_rfl

theorem liftRefuses_lifted (os : Os) (started : os.Started) (H : Type) (enc : TypeId × Value → H) :
    ReturnsInHanded {} Tryz.checked os 9 .any (Rows.liftRefusesSpec.pre6 enc Tryz.prog Tryz.f9 Rows.liftRefusesRow.domain false) (Rows.liftRefusesSpec.post enc Tryz.prog Tryz.f9 false true false false) := by
  refine returnsInHanded_of_change (C := Tryz.checked) own0 started (by kernel_rfl) Tryz.func9
    (ChangeSpec.witness6 (enc := enc) (C := Tryz.checked) false ⟨#[], #[.int .i64 0, .int .i64 0, .int .i64 0], []⟩ 8 (by kernel_rfl) (by kernel_rfl) (by kernel_rfl) (by kernel_rfl)) ?_
  intro W base args ds gs before hval0 hW hcnd _
  have hval : ∀ (j : Nat) t v, Tryz.f9.params[j]? = some t → args[j]? = some v → Value.okWide Tryz.prog W .any base t v := hval0
  have hW' := hW
  obtain ⟨p, q, hA0, hV, rfl, hfz, hnd⟩ := hW
  have hA : DataW.TrodAll enc Tryz.prog W 0 (fun _ => true) true Tryz.f9.params.toList args.toList ds p := hA0
  rw [Tryz.params9] at hA hval
  obtain ⟨v0, v1, v2, d0, d1, d2, p0, p1, p2, rfl, rfl, rfl, h0, h1, h2⟩ := trodAll_three hA
  obtain ⟨rfl, rfl⟩ := trodVars_none hV
  obtain ⟨n0, rfl, rfl, rfl, w0⟩ := open_int Tryz.underlying3 (hval 0 3 v0 rfl rfl) h0
  obtain ⟨n1, rfl, rfl, rfl, w1⟩ := open_int Tryz.underlying3 (hval 1 3 v1 rfl rfl) h1
  obtain ⟨n2, rfl, rfl, rfl, w2⟩ := open_int Tryz.underlying3 (hval 2 3 v2 rfl rfl) h2
  exact law_lim (P := Tryz.prog) gamok tab_ok laid0 rfl rfl Tryz.underlying4 (by kernel_rfl) hW' ⟨rfl, rfl, rfl⟩ (xs := [.lit (.int .i64 n0), .lit (.int .i64 n1), .lit (.int .i64 n2)]) (by simp only [VRels_cons, VRels_nil, and_true]; exact ⟨(by simp only [VRel]), (by simp only [VRel]), (by simp only [VRel])⟩) (law_refuses n0 n1 n2)

theorem liftRefuses_holds : Rows.LiftRefusesSaid :=
  OpenClaim.holds_of_wide 9 Tryz.f9 rfl rfl rfl rfl rfl rfl rfl ⟨rfl, rfl, rfl, rfl, rfl⟩ rfl rfl rfl rfl rfl (by kernel_rfl) Tryz.func9 (by kernel_rfl)
    (of_decide_eq_true (by kernel_rfl)) (by unfold Func.isWrapper; first | (rw [if_pos (by decide +kernel)]; kernel_rfl) | (rw [if_neg (by decide +kernel)]; exact ⟨rfl, rfl⟩))
    (fun os started H enc _ => liftRefuses_lifted os started H enc)
#print axioms liftRefuses_holds
end Go.Proofs.YtfokealcfobnnaaGreat
