/- The statement TreeChecks holds: whatever the arguments, the law returns true, and they read as they did. No condition. -/
import Derived.Test.YtcmdnlpkplaapaaGreatRows
import Derived.Test.YtcmdnlpkplaapaaGreatSA5z
set_option linter.unusedVariables false
set_option maxRecDepth 100000
namespace Go.Proofs.YtcmdnlpkplaapaaGreat
open Go Go.ChangeShapes Go.WideShapes Go.ChangeAt Go.RowKit Go.Proofs.Eng Go.Proofs.Y5z
open Go.ChangeMaps (open_string shut_string)

theorem own0 : ownKnob Tryz.prog.godebug = none := by kernel_rfl
theorem laid0 : laidOutB Tryz.prog = true := by kernel_rfl

theorem treeChecks_lifted (os : Os) (started : os.Started) (H : Type) (enc : TypeId × Value -> H) :
  ReturnsInHanded {} Tryz.checked os 3 .any (Rows.treeChecksSpec.pre6 enc Tryz.prog Tryz.f3 Rows.treeChecksRow.domain false) (Rows.treeChecksSpec.post enc Tryz.prog Tryz.f3 false true false false) := by
 refine returnsInHanded_of_change (C := Tryz.checked) own0 started (by kernel_rfl) Tryz.func3
  (ChangeSpec.witness6 (enc := enc) (C := Tryz.checked) false ⟨#[],#[.agg #[.slice none 0 0,.slice none 0 0,.slice none 0 0],.int .i64 0],[]⟩ 8 (by kernel_rfl) (by kernel_rfl) (by kernel_rfl) (by kernel_rfl)) ?_
 intro W base args ds gs before hval0 hW hcnd _
 have hval : ∀ (j : Nat) t v,Tryz.f3.params[j]? = some t -> args[j]? = some v -> Value.okWide Tryz.prog W .any base t v := hval0
 have hW' := hW
 obtain ⟨p,q,hA0,hV,rfl,hfz,hnd⟩ := hW
 have hA : DataW.TrodAll enc Tryz.prog W 0 (fun _ => true) true Tryz.f3.params.toList args.toList ds p := hA0
 rw [Tryz.params3] at hA hval
 obtain ⟨v0,v1,d0,d1,p0,p1,rfl,rfl,rfl,h0,h1⟩ := trodAll_two hA
 obtain ⟨rfl,rfl⟩ := trodVars_none hV
 obtain ⟨x0,hr0,hx0⟩ := read_wst 6 Tryz.underlying26 (by kernel_rfl) (by rw [show Tryz.prog.cellsOf 26 = 3 from by kernel_rfl]; decide) h0
 obtain ⟨n1,rfl,rfl,rfl,w1⟩ := open_int Tryz.underlying3 (hval 1 3 v1 rfl rfl) h1
 exact law_lim (P := Tryz.prog) gamok tab_ok laid0 rfl rfl Tryz.underlying4 (by kernel_rfl) hW' ⟨rfl,rfl,rfl⟩ (xs := [.agg x0,.lit (.int .i64 n1)]) (by simp only [VRels_cons,VRels_nil,and_true]; exact ⟨hr0,(by simp only [VRel])⟩) (law_checks hx0)

theorem treeChecks_holds : Rows.TreeChecksSaid :=
 OpenClaim.holds_of_wide 3 Tryz.f3 rfl rfl rfl rfl rfl rfl rfl ⟨rfl,rfl,rfl,rfl,rfl⟩ rfl rfl rfl rfl rfl (by kernel_rfl) Tryz.func3 (by kernel_rfl)
  (of_decide_eq_true (by kernel_rfl)) (by unfold Func.isWrapper; first | (rw [if_pos (by decide +kernel)]; kernel_rfl) | (rw [if_neg (by decide +kernel)]; exact ⟨rfl,rfl⟩))
  (fun os started H enc _ => treeChecks_lifted os started H enc)
#print axioms treeChecks_holds
end Go.Proofs.YtcmdnlpkplaapaaGreat
