/- Seat 2: the law StorePlays: what may be drawn in store.Copy; the law as it is run. -/
import Derived.Test.YtchbifaiofljdaaM46
import Derived.Test.YtchbifaiofljdaaSA2r
set_option linter.unusedVariables false
set_option maxRecDepth 100000
namespace Go.Proofs.Y2r
open Go Go.Proofs.Eng
def dTab : FuncId → Option DFunc := fun f => match f with
  | 28 => some (D_p_store_Store_Copy nm)
  | _ => none
theorem resD28 : pDFunc Try.prog hint_p_store_Store_Copy Try.f28 = some { D_p_store_Store_Copy nm with frz := false } := by kernel_rfl
theorem resD10 : pDFunc Try.prog hint_law23_StorePlays Try.f10 = some { D_law23_StorePlays nm with frz := false } := by kernel_rfl
theorem dTab_ok : TOKD Try.prog dTab := by
  intro f df h
  unfold dTab at h
  split at h
  · simp only [Option.some.injEq] at h
    subst h
    exact ⟨_, _, Try.func28, resD28⟩
  · simp at h
noncomputable def dC : DCalls := dCalls (A := tab) gamok dTab
theorem dC_ok : DCOK Try.prog dC := dCalls_ok gamok tab_ok dTab_ok
theorem dTab_copy : dTab (f_p_store_Store_Copy nm) = some (D_p_store_Store_Copy nm) := by kernel_rfl
theorem dC_copy {args : List AV} {H : Hp} {R : AV × Option Hp → Prop} (h : DRunP noC gam tab (D_p_store_Store_Copy nm) args H R) : dC.run (f_p_store_Store_Copy nm) args H R := ⟨_, dTab_copy, h⟩
theorem law_plays {x y : AV} (h : WT Try.prog 4 41 [x]) (h2 : WT Try.prog 4 41 [y]) : DRunP dC gam tab (D_law23_StorePlays nm) [x, y] { l := [], d := none } fun r => r.1 = avBool true := by
  obtain ⟨es, e1, e2, e3⟩ := acts_of h
  obtain ⟨es2, f1, f2, f3⟩ := acts_of h2
  have hm : maxLen < 2 ^ 63 := by decide
  exact law_StorePlays (C := dC) hasSt hasS2 hasL lives_23 (fun hst hr hn hb => dC_copy (Copy_run hasSt hst hr hn hb)) e1 e2 (by omega) f1 f2 (by omega)
end Go.Proofs.Y2r
