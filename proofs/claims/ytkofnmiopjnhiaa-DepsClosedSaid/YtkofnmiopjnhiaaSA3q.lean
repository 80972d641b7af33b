/- Seat 3: the law DepsClosed. -/
import Derived.Test.YtkofnmiopjnhiaaM34
import Derived.Test.YtkofnmiopjnhiaaSA3p
set_option linter.unusedVariables false
set_option maxRecDepth 100000
namespace Go.Proofs.Y3p
open Go Go.Proofs.Eng
theorem resD3 : pDFunc Try.prog hint_law24_DepsClosed Try.f3 = some { D_law24_DepsClosed nm with frz := false } := by kernel_rfl
theorem law_closed {x : AV} (h : WT Try.prog 4 22 [x]) : DRunP dC gam tab (D_law24_DepsClosed nm) [x] { l := [], d := none } fun r => r.1 = avBool true := by
  obtain ⟨es, rs, e1, e2, e3, e4⟩ := rows_of h
  have hm : maxLen < 2 ^ 63 := by decide
  exact law_DepsClosed hasP lives_24 e1 e2 (by omega) (fun r hr => by
    obtain ⟨a, b, c⟩ := e4 r hr
    exact ⟨by omega, by omega, fun s hs => by have := c s hs; omega⟩)
end Go.Proofs.Y3p
