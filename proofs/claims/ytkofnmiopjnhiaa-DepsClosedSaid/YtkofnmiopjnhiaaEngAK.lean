/- The engine, part AK: loops over functions that lay objects of their own. -/
import Derived.Test.YtkofnmiopjnhiaaM26
import Derived.Test.YtkofnmiopjnhiaaEngAI
set_option linter.unusedVariables false
set_option linter.unusedSimpArgs false
namespace Go.Proofs.Eng
open Go Go.RowKit

/-- A function that tells n elements, one by one; it may lay objects, and writes none that was there. S: what the loop's body may write. -/
def GenM (W : Env) (g : FuncId) (fs cs : List AV) (V : Hp → Prop) (n : Nat) (X : Nat → Hp → List AV → Prop) : Prop :=
  ∀ (l : Nat) (H : Hp) (K : Nat → List Nat → Hp → Prop) (Kx : Hp → Prop) (S0 : List Nat), l < H.l.length → (∀ s ∈ S0, s < H.l.length) → l ∈ S0 →
    (∀ i S H' H'', K i S H' → Mut H' H'' [] → K i S H'') → (∀ i S H', K i S H' → V H') → K 0 S0 { l := H.l, d := none } →
    (∀ i S H' args, i < n → K i S H' → X i H' args → ∃ t H'' S', W.yld l args H' = some (avBool t, some H'') ∧ (∃ m, H''.d = some m ∧ m ≤ l) ∧ Mut H' H'' S ∧ (∀ s ∈ S', s ∈ S ∨ H'.l.length ≤ s) ∧ (t = true → K (i + 1) S' H'') ∧ (t = false → Kx H'')) →
    ∃ v h H2, W.ent g (fs ++ [.yld l] ++ cs) H = some (v, h) ∧ (h.getD H).l = H2.l ∧ (h.getD H).d = dminO H.d H2.d ∧ ((∃ S, K n S H2) ∨ Kx H2)

section
variable {Γ : Sums} {A : Tab} {H0 : Hp}

theorem Loc.still {H H' : Hp} {os : List (Nat × AObj)} (h : Loc H0 H os) (k : Mut H H' []) : Loc H0 H' os :=
  h.mut k (by simp) (fun p hp => ⟨k.get' (h.get hp) (by simp), h.ge hp⟩) h.nd

end
end Go.Proofs.Eng
