/- The engine, part AF: loops over functions, by what the function tells. -/
import Derived.Test.YtchbifaiofljdaaEngAE
set_option linter.unusedVariables false
set_option linter.unusedSimpArgs false
namespace Go.Proofs.Eng
open Go Go.RowKit

def dmin' (d : Option Nat) (n : Nat) : Nat := match d with | none => n | some m => min m n
theorem dmin'_eq (d : Option Nat) (n : Nat) : dmin d n = some (dmin' d n) := by cases d <;> rfl
theorem dmin'_le (d : Option Nat) (n : Nat) : dmin' d n ≤ n := by cases d <;> simp [dmin']; omega

def putR : List Nat → List AV → Rho → Rho
  | p :: ps, x :: xs, ρ => putR ps xs (upd ρ p x)
  | _, _, ρ => ρ
@[simp] theorem putR_cons {p : Nat} {ps : List Nat} {x : AV} {xs : List AV} {ρ : Rho} : putR (p :: ps) (x :: xs) ρ = putR ps xs (upd ρ p x) := _root_.id rfl
@[simp] theorem putR_nil {xs : List AV} {ρ : Rho} : putR [] xs ρ = ρ := by cases xs <;> rfl
theorem putAll_len : ∀ (ps : List Nat) (xs τ : List AV), (putAll ps xs τ).length = τ.length
  | [], _, _ => by simp [putAll]
  | p :: ps, [], _ => by simp [putAll]
  | p :: ps, x :: xs, τ => by simp only [putAll]; rw [putAll_len]; simp
theorem rho_putAll : ∀ (ps : List Nat) (xs τ : List AV), (∀ p ∈ ps, p < τ.length) → rho (putAll ps xs τ) = putR ps xs (rho τ)
  | [], _, _, _ => by simp [putAll]
  | p :: ps, [], _, _ => by simp [putAll, putR]
  | p :: ps, x :: xs, τ, h => by
    simp only [putAll, putR]
    rw [rho_putAll ps xs _ (by intro q hq; simpa using h q (by simp [hq])), rho_set (h p (by simp))]

section
variable {Γ : Sums} {A : Tab} {H0 : Hp}

def isLoopO : AObj → Bool
  | .loop .. => true
  | _ => false
end
end Go.Proofs.Eng
