/- StoreNone, run by the engine: whatever the name, true. No condition. -/
import Derived.Test.YtchbifaiofljdaaEngTab2
import Derived.Test.YtchbifaiofljdaaEngY
set_option linter.unusedVariables false
set_option linter.unusedSimpArgs false
set_option maxRecDepth 100000
namespace Go.Proofs.Y2
open Go Go.Proofs.Eng
def noG : Sums := fun _ _ _ => none
def isT : Option (AV × Option Hp) → Bool
  | some (.lit (.bool true), none) => true
  | _ => false
theorem isT_spec {r : Option (AV × Option Hp)} (h : isT r = true) : r = some (.lit (.bool true), none) := by
  unfold isT at h
  split at h
  · rfl
  · simp at h

theorem ops_cons {E : Env} {o : AOper} {r : List AOper} {τ : List AV} {H : Hp} {v : AV} (h : actO E o τ H = some (v, none)) : execOps E (o :: r) τ H = execOps E r (aput o.dst v τ) H := by
  simp [execOps, h]

def body11 : AC := A11.body
def rest11 : AC := match body11 with | .seq _ (.seq _ r) => r | _ => .skip
def cond11 : AC := match body11 with | .seq _ (.seq (.seq _ c) _) => c | _ => .skip
def ops11 : List AOper := match body11 with | .seq _ (.seq (.seq (.ops l) _) _) => l | _ => []

theorem body11_eq : A11.body = .seq (.ops [⟨(some 2), .mov (.c (.lit (.bool false))), none⟩]) (.seq (.seq (.ops ops11) cond11) rest11) := by kernel_rfl
theorem ops11_eq : ops11 = [⟨(some 7), .call (.c (.fn 12 [] [])) [], none⟩, ⟨(some 8), .un .not (.t 7), none⟩, ⟨(some 9), .mov (.t 8), none⟩, ⟨(some 10), .mov (.t 0), (some (9, false))⟩, ⟨(some 11), .lens (.t 10), (some (9, false))⟩, ⟨(some 12), .bin .gtr (.t 11) (.c (.lit (.int .i64 100))), (some (9, false))⟩, ⟨(some 13), .pick (.t 9) (.c (.lit (.bool true))) (.t 12), none⟩] := by kernel_rfl

def tau (s : ByteArray) (b : Bool) : List AV :=
  aput (some 13) (avBool b) (aput (some 12) (avBool b) (aput (some 11) (avInt .i64 ((bl s).length : Int)) (aput (some 10) (.lit (.string s)) (aput (some 9) (avBool false) (aput (some 8) (avBool false) (aput (some 7) (avBool true)
    (aput (some 2) (avBool false) (.lit (.string s) :: List.replicate 62 avU))))))))

abbrev E0 : Env := env noG tab 59
theorem lives12 : E0.call 12 [] ⟨[], none⟩ = some (.lit (.bool true), none) := isT_spec (by kernel_rfl)

theorem head11 {E : Env} (h12 : E.call 12 [] ⟨[], none⟩ = some (.lit (.bool true), none)) (s : ByteArray) :
    execOps E ops11 (aput (some 2) (avBool false) (.lit (.string s) :: List.replicate 62 avU)) ⟨[], none⟩ = some (tau s (decide ((100 : Int) < ((bl s).length : Int))), ⟨[], none⟩) := by
  rw [ops11_eq]
  simp [execOps, actO, wantA, aopE, aop, callV, aeval, aput, aun, abin, abinI, h12, tau, List.replicate]

def tail11 (E : Env) (s : ByteArray) (b : Bool) : Option (AV × Option Hp) :=
  match execC E none (.seq (.seq .skip cond11) rest11) (tau s b) ⟨[], none⟩ with
  | some (.nrm, τ, H') => (resA A11.results τ H').map fun v => Eng.settle ⟨[], none⟩ v H'
  | some (.ret, τ, H') => (resA A11.results τ H').map fun v => Eng.settle ⟨[], none⟩ v H'
  | _ => none

theorem run11 {E : Env} (h12 : E.call 12 [] ⟨[], none⟩ = some (.lit (.bool true), none)) (s : ByteArray) :
    runF (execC E none) A11 [.lit (.string s)] ⟨[], none⟩ = tail11 E s (decide ((100 : Int) < ((bl s).length : Int))) := by
  unfold runF tail11
  have e3 : execC E none A11.body ([AV.lit (.string s)] ++ List.replicate (A11.ntmps - [AV.lit (.string s)].length) avU) { l := (⟨[], none⟩ : Hp).l, d := none } =
      execC E none (.seq (.seq .skip cond11) rest11) (tau s (decide ((100 : Int) < ((bl s).length : Int)))) ⟨[], none⟩ := by
    rw [body11_eq]
    have h0 : ([AV.lit (.string s)] ++ List.replicate (A11.ntmps - [AV.lit (.string s)].length) avU) = .lit (.string s) :: List.replicate 62 avU := rfl
    have h1 : execOps E [⟨(some 2), .mov (.c (.lit (.bool false))), none⟩] (.lit (.string s) :: List.replicate 62 avU) ⟨[], none⟩ = some (aput (some 2) (avBool false) (.lit (.string s) :: List.replicate 62 avU), ⟨[], none⟩) := by
      simp [execOps, actO, wantA, aopE, aop, aeval]
    rw [h0]
    simp only [execC]
    rw [h1]
    simp only [head11 h12, Option.map_some]
  rw [e3]
  generalize execC E none ((AC.skip.seq cond11).seq rest11) (tau s (decide ((100 : Int) < ((bl s).length : Int)))) ⟨[], none⟩ = z
  rcases z with _ | ⟨x, τ, H'⟩
  · rfl
  · cases x <;> rfl

theorem tail_true (s : ByteArray) : isT (tail11 E0 s true) = true := by kernel_rfl
theorem tail_false (s : ByteArray) : isT (tail11 E0 s false) = true := by kernel_rfl

theorem ent11 (s : ByteArray) : (env noG tab 60).ent 11 [.lit (.string s)] ⟨[], none⟩ = runF (execC E0 none) A11 [.lit (.string s)] ⟨[], none⟩ := by kernel_rfl

theorem law11 (s : ByteArray) : ∃ h, (env noG tab 60).ent 11 [.lit (.string s)] ⟨[], none⟩ = some (.lit (.bool true), h) := by
  refine ⟨none, ?_⟩
  rw [ent11, run11 lives12]
  generalize decide ((100 : Int) < ((bl s).length : Int)) = b
  cases b
  · exact isT_spec (tail_false s)
  · exact isT_spec (tail_true s)
end Go.Proofs.Y2
