/- Seat 5: the law TreeAround: what its table holds; the law as it is run for whatever is drawn. -/
import Derived.Test.YtcmdnlpkplaapaaSA5d
import Derived.Test.YtcmdnlpkplaapaaM43
set_option linter.unusedVariables false
set_option maxRecDepth 100000
namespace Go.Proofs.Y5b
open Go Go.Proofs.Eng
theorem hasWalk : WalkC gam tab nm := ⟨hasR tab_tree_Walk (by kernel_rfl), hasR tab_tree_Walk_1 (by kernel_rfl), hasR tab_slices_Backward_sl_int_int (by kernel_rfl), hasR tab_slices_Backward_sl_int_int_1 (by kernel_rfl)⟩
theorem has04N : Ref04N gam tab nm := ⟨hasR tab_ref04_Tag (by kernel_rfl), hasR tab_ref04_Name (by kernel_rfl)⟩
theorem hasAround : AroundC gam tab nm := ⟨hasC, hasR tab_tree_Depth (by kernel_rfl), hasWalk, hasR tab_law04_Few (by kernel_rfl), hasR tab_law04_all (by kernel_rfl), hasR tab_law04_same (by kernel_rfl), has04N, hasR tab_ref03_IsWord (by kernel_rfl)⟩
theorem resD4 : pDFunc Try.prog hint_law04_TreeAround Try.f4 = some { D_law04_TreeAround nm with frz := false } := by kernel_rfl
theorem law_around {xs : List AV} {s : ByteArray} (h : WT Try.prog 6 40 xs) : DRunP gam tab (D_law04_TreeAround nm) [.agg xs, .lit (.string s)] { l := [], d := none } fun r => r.1 = avBool true := by
  obtain ⟨a, b, c, t, rfl, h1, h2, h3⟩ := tree_of h
  rw [← mkS_bl s]
  exact law_TreeAround hasAround (lives_04 a b c) h1 h2 h3
end Go.Proofs.Y5b
