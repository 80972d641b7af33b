/- The statement StorePlays holds: whatever the arguments, the law returns true, and they read as they did. No condition. -/
import Derived.Test.YtchbifaiofljdaaRows
import Derived.Test.YtchbifaiofljdaaSA2p
set_option linter.unusedVariables false
set_option maxRecDepth 100000
namespace Go.Proofs.Ytchbifaiofljdaa
open Go Go.ChangeShapes Go.WideShapes Go.ChangeAt Go.RowKit Go.Proofs.Eng Go.Proofs.Y2r
open Go.ChangeMaps (open_string shut_string)

theorem own0 : ownKnob Try.prog.godebug = none := by kernel_rfl
theorem laid0 : laidOutB Try.prog = true := by kernel_rfl

theorem storePlays_lifted (os : Os) (started : os.Started) (H : Type) (enc : TypeId × Value → H) :
    ReturnsInHanded {} Try.checked os 10 .any (Rows.storePlaysSpec.pre6 enc Try.prog Try.f10 Rows.storePlaysRow.domain false) (Rows.storePlaysSpec.post enc Try.prog Try.f10 false true false false) := by
  refine returnsInHanded_of_change (C := Try.checked) own0 started (by kernel_rfl) Try.func10
    (ChangeSpec.witness6 (enc := enc) (C := Try.checked) false ⟨#[], #[.slice none 0 0, .slice none 0 0], []⟩ 8 (by kernel_rfl) (by kernel_rfl) (by kernel_rfl) (by kernel_rfl)) ?_
  intro W base args ds gs before hval0 hW hcnd _
  have hval : ∀ (j : Nat) t v, Try.f10.params[j]? = some t → args[j]? = some v → Value.okWide Try.prog W .any base t v := hval0
  have hW' := hW
  obtain ⟨p, q, hA0, hV, rfl, hfz, hnd⟩ := hW
  have hA : DataW.TrodAll enc Try.prog W 0 (fun _ => true) true Try.f10.params.toList args.toList ds p := hA0
  rw [Try.params10] at hA hval
  obtain ⟨v0, v1, d0, d1, p0, p1, rfl, rfl, rfl, h0, h1⟩ := trodAll_two hA
  obtain ⟨rfl, rfl⟩ := trodVars_none hV
  obtain ⟨x0, hr0, hx0⟩ := read_wsl 4 Try.underlying41 (by kernel_rfl) (hval 0 41 v0 rfl rfl) h0
  obtain ⟨x1, hr1, hx1⟩ := read_wsl 4 Try.underlying41 (by kernel_rfl) (hval 1 41 v1 rfl rfl) h1
  exact law_limD (P := Try.prog) dC_ok gamok tab_ok laid0 Try.func10 resD10 rfl rfl Try.underlying4 (by kernel_rfl) hW' ⟨rfl, rfl, rfl⟩ (xs := [x0, x1]) (by simp only [VRels_cons, VRels_nil, and_true]; exact ⟨hr0, hr1⟩) (law_plays hx0 hx1)

theorem storePlays_holds : Rows.StorePlaysSaid :=
  OpenClaim.holds_of_wide 10 Try.f10 rfl rfl rfl rfl rfl rfl rfl ⟨rfl, rfl, rfl, rfl, rfl⟩ rfl rfl rfl rfl rfl (by kernel_rfl) Try.func10 (by kernel_rfl)
    (of_decide_eq_true (by kernel_rfl)) (by unfold Func.isWrapper; first | (rw [if_pos (by decide +kernel)]; kernel_rfl) | (rw [if_neg (by decide +kernel)]; exact ⟨rfl, rfl⟩))
    (fun os started H enc _ => storePlays_lifted os started H enc)
#print axioms storePlays_holds
end Go.Proofs.Ytchbifaiofljdaa
