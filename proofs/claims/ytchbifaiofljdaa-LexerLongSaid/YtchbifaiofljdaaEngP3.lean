/- The statement LexerLong of azimuthlaw03 holds: whatever the byte, the law returns true, and its argument reads as it did. No condition. -/
import Derived.Test.YtchbifaiofljdaaRows
import Derived.Test.YtchbifaiofljdaaEngT3
set_option linter.unusedVariables false
set_option maxRecDepth 100000
namespace Go.Proofs.Ytchbifaiofljdaa
open Go Go.ChangeShapes Go.WideShapes Go.ChangeAt Go.RowKit Go.Proofs.Eng Go.Proofs.Y3

theorem own3 : ownKnob Try.prog.godebug = none := by kernel_rfl
theorem laid3 : laidOutB Try.prog = true := by kernel_rfl
theorem gok3 : GOK Try.prog (gIndexByte 85) := indexByte_ok Try.func85 (by kernel_rfl) (by kernel_rfl) (by rfl) (by rfl)

theorem lexerLong_lifted (os : Os) (started : os.Started) (H : Type) (enc : TypeId × Value → H) :
    ReturnsInHanded {} Try.checked os 6 .any (Rows.lexerLongSpec.pre6 enc Try.prog Try.f6 Rows.lexerLongRow.domain false) (Rows.lexerLongSpec.post enc Try.prog Try.f6 false true false false) := by
  refine returnsInHanded_of_change (C := Try.checked) own3 started (by kernel_rfl) Try.func6
    (ChangeSpec.witness6 (enc := enc) (C := Try.checked) false ⟨#[], #[.int .u8 0], []⟩ 8 (by kernel_rfl) (by kernel_rfl) (by kernel_rfl) (by kernel_rfl)) ?_
  intro W base args ds gs before hval0 hW hcnd _
  have hval : ∀ (j : Nat) t v, Try.f6.params[j]? = some t → args[j]? = some v → Value.okWide Try.prog W .any base t v := hval0
  have hW' := hW
  obtain ⟨p, q, hA0, hV, rfl, hfz, hnd⟩ := hW
  have hA : DataW.TrodAll enc Try.prog W 0 (fun _ => true) true Try.f6.params.toList args.toList ds p := hA0
  rw [Try.params6] at hA hval
  obtain ⟨v0, d0, rfl, rfl, h0⟩ := trodAll_one hA
  obtain ⟨rfl, rfl⟩ := trodVars_none hV
  obtain ⟨n, rfl, rfl, rfl, wn⟩ := open_int Try.underlying5 (hval 0 5 v0 rfl rfl) h0
  exact law_contract (P := Try.prog) gok3 tab_ok laid3 rfl rfl Try.underlying4 (by kernel_rfl) hW' ⟨rfl, rfl, rfl⟩ (xs := [.lit (.int .u8 n)]) (by simp [VRel]) (law6 n)

theorem lexerLong_holds : Rows.LexerLongSaid :=
  OpenClaim.holds_of_wide 6 Try.f6 rfl rfl rfl rfl rfl rfl rfl ⟨rfl, rfl, rfl, rfl, rfl⟩ rfl rfl rfl rfl rfl (by kernel_rfl) Try.func6 (by kernel_rfl)
    (of_decide_eq_true (by kernel_rfl)) (by unfold Func.isWrapper; first | (rw [if_pos (by decide +kernel)]; kernel_rfl) | (rw [if_neg (by decide +kernel)]; exact ⟨rfl, rfl⟩))
    (fun os started H enc _ => lexerLong_lifted os started H enc)
#print axioms lexerLong_holds
end Go.Proofs.Ytchbifaiofljdaa
