/- The statement LexerBlanks holds: whatever the arguments, the law returns true, and they read as they did. No condition. -/
import Derived.Test.YtchbifaiofljdaaRows
import Derived.Test.YtchbifaiofljdaaSA2b
import Derived.Test.YtchbifaiofljdaaM41
set_option linter.unusedVariables false
set_option maxRecDepth 100000
namespace Go.Proofs.Ytchbifaiofljdaa
open Go Go.ChangeShapes Go.WideShapes Go.ChangeAt Go.RowKit Go.Proofs.Eng Go.Proofs.Y2
open Go.ChangeMaps (open_string shut_string)

theorem own0 : ownKnob Try.prog.godebug = none := by kernel_rfl
theorem laid0 : laidOutB Try.prog = true := by kernel_rfl

theorem lexerBlanks_lifted (os : Os) (started : os.Started) (H : Type) (enc : TypeId × Value → H) :
    ReturnsInHanded {} Try.checked os 4 .any (Rows.lexerBlanksSpec.pre6 enc Try.prog Try.f4 Rows.lexerBlanksRow.domain false) (Rows.lexerBlanksSpec.post enc Try.prog Try.f4 false true false false) := by
  refine returnsInHanded_of_change (C := Try.checked) own0 started (by kernel_rfl) Try.func4
    (ChangeSpec.witness6 (enc := enc) (C := Try.checked) false ⟨#[], #[.slice none 0 0], []⟩ 8 (by kernel_rfl) (by kernel_rfl) (by kernel_rfl) (by kernel_rfl)) ?_
  intro W base args ds gs before hval0 hW hcnd _
  have hval : ∀ (j : Nat) t v, Try.f4.params[j]? = some t → args[j]? = some v → Value.okWide Try.prog W .any base t v := hval0
  have hW' := hW
  obtain ⟨p, q, hA0, hV, rfl, hfz, hnd⟩ := hW
  have hA : DataW.TrodAll enc Try.prog W 0 (fun _ => true) true Try.f4.params.toList args.toList ds p := hA0
  rw [Try.params4] at hA hval
  obtain ⟨v0, d0, rfl, rfl, h0⟩ := trodAll_one hA
  obtain ⟨rfl, rfl⟩ := trodVars_none hV
  obtain ⟨x0, b0, hr0, hl0, hx0⟩ := read_bytes' Try.underlying27 Try.underlying5 (by kernel_rfl) (hval 0 27 v0 rfl rfl) h0
  exact law_lim (P := Try.prog) gamok tab_ok laid0 rfl rfl Try.underlying4 (by kernel_rfl) hW' ⟨rfl, rfl, rfl⟩ (xs := [x0]) (by simp only [VRels_cons, VRels_nil, and_true]; exact hr0) (law_LexerBlanks hasA hasBlanksL lives_0 x0 b0 hx0)

theorem lexerBlanks_holds : Rows.LexerBlanksSaid :=
  OpenClaim.holds_of_wide 4 Try.f4 rfl rfl rfl rfl rfl rfl rfl ⟨rfl, rfl, rfl, rfl, rfl⟩ rfl rfl rfl rfl rfl (by kernel_rfl) Try.func4 (by kernel_rfl)
    (of_decide_eq_true (by kernel_rfl)) (by unfold Func.isWrapper; first | (rw [if_pos (by decide +kernel)]; kernel_rfl) | (rw [if_neg (by decide +kernel)]; exact ⟨rfl, rfl⟩))
    (fun os started H enc _ => lexerBlanks_lifted os started H enc)
#print axioms lexerBlanks_holds
end Go.Proofs.Ytchbifaiofljdaa
