/- The engine, part AN: loops over functions that lay objects of their own and write these; such loops where what the body writes was there ahead. -/
import Derived.Test.YtchbifaiofljdaaEngAK
set_option linter.unusedVariables false
set_option linter.unusedSimpArgs false
namespace Go.Proofs.Eng
open Go Go.RowKit

/-- A function that tells n elements, one by one; it may lay objects, and writes these. S: what the loop's body may write. -/
def GenO (W : Env) (g : FuncId) (fs cs : List AV) (V : Hp → Prop) (n : Nat) (X : Nat → Hp → List AV → Prop) : Prop :=
  ∀ (l : Nat) (H : Hp) (K : Nat → List Nat → Hp → Prop) (Kx : Hp → Prop) (S0 : List Nat), l < H.l.length → (∀ s ∈ S0, s < H.l.length) → l ∈ S0 →
    (∀ i S H' H'' O, K i S H' → Mut H' H'' O → (∀ o ∈ O, H.l.length ≤ o ∧ o ∉ S) → K i S H'') → (∀ i S H', K i S H' → V H') → K 0 S0 { l := H.l, d := none } →
    (∀ i S H' args, i < n → K i S H' → X i H' args → ∃ t H'' S', W.yld l args H' = some (avBool t, some H'') ∧ (∃ m, H''.d = some m ∧ m ≤ l) ∧ Mut H' H'' S ∧ (∀ s ∈ S', s ∈ S ∨ H'.l.length ≤ s) ∧ (∀ s ∈ S', s < H''.l.length) ∧ (t = true → K (i + 1) S' H'') ∧ (t = false → Kx H'')) →
    ∃ v h H2, W.ent g (fs ++ [.yld l] ++ cs) H = some (v, h) ∧ (h.getD H).l = H2.l ∧ (h.getD H).d = dminO H.d H2.d ∧ ((∃ S, K n S H2) ∨ Kx H2)

section
variable {Γ : Sums} {A : Tab} {H0 : Hp}

theorem GenM.own {W : Env} {g : FuncId} {fs cs : List AV} {V : Hp → Prop} {n : Nat} {X : Nat → Hp → List AV → Prop} (h : GenM W g fs cs V n X) : GenO W g fs cs V n X := fun l H K Kx S0 a b c hst hV h0 step =>
  h l H K Kx S0 a b c (fun i S H' H'' hK hM => hst i S H' H'' [] hK hM (by simp)) hV h0 (fun i S H' args hi hK hX => by
    obtain ⟨t, H'', S', a1, a2, a3, a4, _, a5, a6⟩ := step i S H' args hi hK hX
    exact ⟨t, H'', S', a1, a2, a3, a4, a5, a6⟩)
theorem Loc.apart {H H' : Hp} {os : List (Nat × AObj)} {O : List Nat} (h : Loc H0 H os) (k : Mut H H' O) (ho : ∀ o ∈ O, H0.l.length ≤ o ∧ o ∉ os.map Prod.fst) : Loc H0 H' os :=
  h.mut k (fun i hi => (ho i hi).1) (fun p hp => ⟨k.get' (h.get hp) (fun hm => (ho _ hm).2 (List.mem_map.2 ⟨p, hp, rfl⟩)), h.ge hp⟩) h.nd

end
end Go.Proofs.Eng
