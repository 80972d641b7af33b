/- The engine, part AD: calls of functions that a table holds; the heap's own laws. -/
import Derived.Test.YtchbifaiofljdaaEngAC
set_option linter.unusedVariables false
set_option linter.unusedSimpArgs false
namespace Go.Proofs.Eng
open Go Go.RowKit

/-- A table holds a function, and no summary stands before it. -/
structure Has (Γ : Sums) (A : Tab) (f : FuncId) (fn : AFunc) : Prop where
  tab : A f = some fn
  sum : ∀ args H, Γ f args H = none

section
variable {Γ : Sums} {A : Tab} {f : FuncId} {fn : AFunc} {args : List AV} {H : Hp}

theorem Has.call (h : Has Γ A f fn) {r : AV × Option Hp} (hd : okF fn args.length = true) (hw : wp (lim Γ A) none fn.body (rho0 args) { l := H.l, d := none } (Ends fn.results fn.frz H fun p => p = r)) : (lim Γ A).call f args H = some r := by
  obtain ⟨q, e, rfl⟩ := call_of_wp (h.sum args H) h.tab hd hw
  exact e
theorem Has.callP (h : Has Γ A f fn) {R : AV × Option Hp → Prop} (hd : okF fn args.length = true) (hw : wp (lim Γ A) none fn.body (rho0 args) { l := H.l, d := none } (Ends fn.results fn.frz H R)) : ∃ r, (lim Γ A).call f args H = some r ∧ R r := call_of_wp (h.sum args H) h.tab hd hw
theorem Has.entP (h : Has Γ A f fn) {R : AV × Option Hp → Prop} (hd : okF fn args.length = true) (hw : wp (lim Γ A) none fn.body (rho0 args) { l := H.l, d := none } (Ends fn.results fn.frz H R)) : ∃ r, (lim Γ A).ent f args H = some r ∧ R r := ent_of_wp h.tab hd hw
end

@[simp ↓] theorem Ends_nrm {rs : List (Sum Nat (Nat × Option Nat))} {z : Bool} {H : Hp} {r : AV × Option Hp → Prop} {ρ : Rho} {H' : Hp} : Ends rs z H r .nrm ρ H' = bindO (resR rs ρ H') fun v => r (settleZ z H v H') := by simp [Ends, bindO]
@[simp ↓] theorem Ends_ret {rs : List (Sum Nat (Nat × Option Nat))} {z : Bool} {H : Hp} {r : AV × Option Hp → Prop} {ρ : Rho} {H' : Hp} : Ends rs z H r .ret ρ H' = bindO (resR rs ρ H') fun v => r (settleZ z H v H') := by simp [Ends, bindO]
@[simp ↓] theorem Ends_exit {rs : List (Sum Nat (Nat × Option Nat))} {z : Bool} {H : Hp} {r : AV × Option Hp → Prop} {ρ : Rho} {H' : Hp} {i : Nat} : Ends rs z H r (.exit i) ρ H' = False := by simp [Ends]

@[simp] theorem resR_one {t : Nat} {ρ : Rho} {H : Hp} : resR [.inl t] ρ H = some (ρ t) := _root_.id rfl
@[simp] theorem resR_two {t u : Nat} {ρ : Rho} {H : Hp} : resR [.inl t, .inl u] ρ H = some (.tup [ρ t, ρ u]) := _root_.id rfl
@[simp] theorem resR_three {t u v : Nat} {ρ : Rho} {H : Hp} : resR [.inl t, .inl u, .inl v] ρ H = some (.tup [ρ t, ρ u, ρ v]) := _root_.id rfl
@[simp] theorem resR_inr {t : Nat} {l : Option Nat} {ρ : Rho} {H : Hp} : resR [.inr (t, l)] ρ H = aload H l (ρ t) := by
  simp [resR, resOneR, List.mapM_cons]; cases aload H l (ρ t) <;> rfl
@[simp] theorem resR_inr2 {t u : Nat} {l m : Option Nat} {ρ : Rho} {H : Hp} : resR [.inr (t, l), .inr (u, m)] ρ H = (aload H l (ρ t)).bind fun a => (aload H m (ρ u)).map fun b => .tup [a, b] := by
  simp [resR, resOneR, List.mapM_cons]
  cases aload H l (ρ t) with
  | none => rfl
  | some a => cases aload H m (ρ u) <;> rfl
@[simp] theorem resR_zero {ρ : Rho} {H : Hp} : resR [] ρ H = some (.tup []) := _root_.id rfl

@[simp] theorem rho0_zero {x : AV} {xs : List AV} : rho0 (x :: xs) 0 = x := _root_.id rfl
@[simp] theorem rho0_succ {x : AV} {xs : List AV} {n : Nat} : rho0 (x :: xs) (n + 1) = rho0 xs n := _root_.id rfl
@[simp] theorem rho0_one {x y : AV} {xs : List AV} : rho0 (x :: y :: xs) 1 = y := _root_.id rfl
@[simp] theorem rho0_two {x y z : AV} {xs : List AV} : rho0 (x :: y :: z :: xs) 2 = z := _root_.id rfl

@[simp] theorem keeps_fresh {H : Hp} : keeps H { l := H.l, d := none } = true := _root_.id rfl
@[simp] theorem settle_fresh {H : Hp} {v : AV} : settle H v { l := H.l, d := none } = if v.under H.l.length = true then (v, none) else (v, some { l := H.l, d := dminO H.d none }) := by simp [settle]
@[simp] theorem settleZ_false {H H' : Hp} {v : AV} : settleZ false H v H' = settle H v H' := _root_.id rfl
attribute [simp ↓] upd_at
attribute [simp] AV.under AV.unders

end Go.Proofs.Eng
