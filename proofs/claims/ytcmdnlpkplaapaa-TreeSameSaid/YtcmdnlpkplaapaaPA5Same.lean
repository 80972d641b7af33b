/- The statement TreeSame holds: whatever the arguments, the law returns true, and they read as they did. No condition. -/
import Derived.Test.YtcmdnlpkplaapaaRows
import Derived.Test.YtcmdnlpkplaapaaSA5s
set_option linter.unusedVariables false
set_option maxRecDepth 100000
namespace Go.Proofs.Ytcmdnlpkplaapaa
open Go Go.ChangeShapes Go.WideShapes Go.ChangeAt Go.RowKit Go.Proofs.Eng Go.Proofs.Y5s
open Go.ChangeMaps (open_string shut_string)

theorem own0 : ownKnob Try.prog.godebug = none := by kernel_rfl
theorem laid0 : laidOutB Try.prog = true := by kernel_rfl

theorem treeSame_lifted (os : Os) (started : os.Started) (H : Type) (enc : TypeId × Value -> H) :
  ReturnsInHanded {} Try.checked os 5 .any (Rows.treeSameSpec.pre6 enc Try.prog Try.f5 Rows.treeSameRow.domain false) (Rows.treeSameSpec.post enc Try.prog Try.f5 false true false false) := by
 refine returnsInHanded_of_change (C := Try.checked) own0 started (by kernel_rfl) Try.func5
  (ChangeSpec.witness6 (enc := enc) (C := Try.checked) false ⟨#[],#[.agg #[.slice none 0 0,.slice none 0 0,.slice none 0 0],.agg #[.slice none 0 0,.slice none 0 0,.slice none 0 0],.int .i64 0],[]⟩ 8 (by kernel_rfl) (by kernel_rfl) (by kernel_rfl) (by kernel_rfl)) ?_
 intro W base args ds gs before hval0 hW hcnd _
 have hval : ∀ (j : Nat) t v,Try.f5.params[j]? = some t -> args[j]? = some v -> Value.okWide Try.prog W .any base t v := hval0
 have hW' := hW
 obtain ⟨p,q,hA0,hV,rfl,hfz,hnd⟩ := hW
 have hA : DataW.TrodAll enc Try.prog W 0 (fun _ => true) true Try.f5.params.toList args.toList ds p := hA0
 rw [Try.params5] at hA hval
 obtain ⟨v0,v1,v2,d0,d1,d2,p0,p1,p2,rfl,rfl,rfl,h0,h1,h2⟩ := trodAll_three hA
 obtain ⟨rfl,rfl⟩ := trodVars_none hV
 obtain ⟨x0,hr0,hx0⟩ := read_wst 6 Try.underlying40 (by kernel_rfl) (by rw [show Try.prog.cellsOf 40 = 3 from by kernel_rfl]; decide) h0
 obtain ⟨x1,hr1,hx1⟩ := read_wst 6 Try.underlying40 (by kernel_rfl) (by rw [show Try.prog.cellsOf 40 = 3 from by kernel_rfl]; decide) h1
 obtain ⟨n2,rfl,rfl,rfl,w2⟩ := open_int Try.underlying3 (hval 2 3 v2 rfl rfl) h2
 exact law_lim (P := Try.prog) gamok tab_ok laid0 rfl rfl Try.underlying4 (by kernel_rfl) hW' ⟨rfl,rfl,rfl⟩ (xs := [.agg x0,.agg x1,.lit (.int .i64 n2)]) (by simp only [VRels_cons,VRels_nil,and_true]; exact ⟨hr0,hr1,(by simp only [VRel])⟩) (law_same hx0 hx1)

theorem treeSame_holds : Rows.TreeSameSaid :=
 OpenClaim.holds_of_wide 5 Try.f5 rfl rfl rfl rfl rfl rfl rfl ⟨rfl,rfl,rfl,rfl,rfl⟩ rfl rfl rfl rfl rfl (by kernel_rfl) Try.func5 (by kernel_rfl)
  (of_decide_eq_true (by kernel_rfl)) (by unfold Func.isWrapper; first | (rw [if_pos (by decide +kernel)]; kernel_rfl) | (rw [if_neg (by decide +kernel)]; exact ⟨rfl,rfl⟩))
  (fun os started H enc _ => treeSame_lifted os started H enc)
#print axioms treeSame_holds
end Go.Proofs.Ytcmdnlpkplaapaa
