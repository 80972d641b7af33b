/- The engine, part AC: laws by which a weakest precondition is reckoned step by step. -/
import Derived.Test.YtchbifaiofljdaaEngAB
set_option linter.unusedVariables false
set_option linter.unusedSimpArgs false
namespace Go.Proofs.Eng
open Go Go.RowKit

/-! ### Combinators of which only the head is reckoned -/
/-- A mark that keeps what it names from being reckoned ahead of time: what another argument's type names is left as it is. -/
inductive Mk.{u} {α : Sort u} (a : α) : Type where
  | mk
def bindO {α : Type} (o : Option α) (K : α → Prop) (m : Mk K := .mk) : Prop := ∃ v, o = some v ∧ K v
@[congr] theorem bindO_congr {α : Type} {o o' : Option α} {K : α → Prop} {m : Mk K} (h : o = o') : bindO o K m = bindO o' K m := by rw [h]
@[simp, simp ↓] theorem bindO_some {α : Type} {v : α} {K : α → Prop} {m : Mk K} : bindO (some v) K m = K v := by simp [bindO]
def bindH (o : Option (AV × Option Hp)) (H : Hp) (Q : AV → Hp → Prop) (m : Mk Q := .mk) (m' : Mk H := .mk) : Prop := ∃ v h, o = some (v, h) ∧ Q v (h.getD H)
@[congr] theorem bindH_congr {o o' : Option (AV × Option Hp)} {H : Hp} {Q : AV → Hp → Prop} {m : Mk Q} {m' : Mk H} (h : o = o') : bindH o H Q m m' = bindH o' H Q m m' := by rw [h]
@[simp, simp ↓] theorem bindH_none {v : AV} {H : Hp} {Q : AV → Hp → Prop} {m : Mk Q} {m' : Mk H} : bindH (some (v, none)) H Q m m' = Q v H := by
  apply propext
  constructor
  · rintro ⟨u, h, e, k⟩; simp only [Option.some.injEq, Prod.mk.injEq] at e; obtain ⟨rfl, rfl⟩ := e; exact k
  · intro k; exact ⟨v, none, rfl, k⟩
@[simp, simp ↓] theorem bindH_some {v : AV} {H H' : Hp} {Q : AV → Hp → Prop} {m : Mk Q} {m' : Mk H} : bindH (some (v, some H')) H Q m m' = Q v H' := by
  apply propext
  constructor
  · rintro ⟨u, h, e, k⟩; simp only [Option.some.injEq, Prod.mk.injEq] at e; obtain ⟨rfl, rfl⟩ := e; exact k
  · intro k; exact ⟨v, some H', rfl, k⟩
theorem bindH_opt {v : AV} {h : Option Hp} {H : Hp} {Q : AV → Hp → Prop} {m : Mk Q} {m' : Mk H} : bindH (some (v, h)) H Q m m' = Q v (h.getD H) := by
  cases h <;> simp
/-- A call that may write no old object. -/
def bindH1 (o : Option (AV × Option Hp)) (H : Hp) (Q : AV → Hp → Prop) (m : Mk Q := .mk) (m' : Mk H := .mk) : Prop := ∃ v h, o = some (v, h) ∧ (match h with | none => Q v H | some H' => keeps H H' = true ∧ Q v { l := H'.l, d := dminO H.d H'.d })
@[congr] theorem bindH1_congr {o o' : Option (AV × Option Hp)} {H : Hp} {Q : AV → Hp → Prop} {m : Mk Q} {m' : Mk H} (h : o = o') : bindH1 o H Q m m' = bindH1 o' H Q m m' := by rw [h]
@[simp, simp ↓] theorem bindH1_none {v : AV} {H : Hp} {Q : AV → Hp → Prop} {m : Mk Q} {m' : Mk H} : bindH1 (some (v, none)) H Q m m' = Q v H := by
  apply propext
  constructor
  · rintro ⟨u, h, e, k⟩; simp only [Option.some.injEq, Prod.mk.injEq] at e; obtain ⟨rfl, rfl⟩ := e; exact k
  · intro k; exact ⟨v, none, rfl, k⟩
def bindH2 (o : Option (AV × Option Hp)) (H : Hp) (Q : AV → Hp → Prop) (m : Mk Q := .mk) (m' : Mk H := .mk) : Prop := ∃ v, o = some (v, none) ∧ Q v H
@[congr] theorem bindH2_congr {o o' : Option (AV × Option Hp)} {H : Hp} {Q : AV → Hp → Prop} {m : Mk Q} {m' : Mk H} (h : o = o') : bindH2 o H Q m m' = bindH2 o' H Q m m' := by rw [h]
@[simp, simp ↓] theorem bindH2_none {v : AV} {H : Hp} {Q : AV → Hp → Prop} {m : Mk Q} {m' : Mk H} : bindH2 (some (v, none)) H Q m m' = Q v H := by
  apply propext
  constructor
  · rintro ⟨u, e, k⟩; simp only [Option.some.injEq, Prod.mk.injEq, and_true] at e; subst e; exact k
  · intro k; exact ⟨v, rfl, k⟩
def bindB (x : AV) (K : Bool → Prop) (m : Mk K := .mk) : Prop := ∃ t, x = avBool t ∧ K t
@[congr] theorem bindB_congr {x x' : AV} {K : Bool → Prop} {m : Mk K} (h : x = x') : bindB x K m = bindB x' K m := by rw [h]
@[simp, simp ↓] theorem bindB_lit {t : Bool} {K : Bool → Prop} {m : Mk K} : bindB (.lit (.bool t)) K m = K t := by
  apply propext
  constructor
  · rintro ⟨u, e, k⟩; simp only [AV.lit.injEq, Value.bool.injEq] at e; subst e; exact k
  · intro k; exact ⟨t, rfl, k⟩
def bindI (x : AV) (K : Int → Prop) (m : Mk K := .mk) : Prop := ∃ k n, x = .lit (.int k n) ∧ K n
@[congr] theorem bindI_congr {x x' : AV} {K : Int → Prop} {m : Mk K} (h : x = x') : bindI x K m = bindI x' K m := by rw [h]
@[simp, simp ↓] theorem bindI_lit {k : IntKind} {n : Int} {K : Int → Prop} {m : Mk K} : bindI (.lit (.int k n)) K m = K n := by
  apply propext
  constructor
  · rintro ⟨j, u, e, h⟩; simp only [AV.lit.injEq, Value.int.injEq] at e; obtain ⟨_, rfl⟩ := e; exact h
  · intro h; exact ⟨_, _, rfl, h⟩
def bindS (x : AV) (K : ByteArray → Prop) (m : Mk K := .mk) : Prop := ∃ s, x = .lit (.string s) ∧ K s
@[congr] theorem bindS_congr {x x' : AV} {K : ByteArray → Prop} {m : Mk K} (h : x = x') : bindS x K m = bindS x' K m := by rw [h]
@[simp, simp ↓] theorem bindS_lit {s : ByteArray} {K : ByteArray → Prop} {m : Mk K} : bindS (.lit (.string s)) K m = K s := by
  apply propext
  constructor
  · rintro ⟨u, e, h⟩; simp only [AV.lit.injEq, Value.string.injEq] at e; subst e; exact h
  · intro h; exact ⟨_, rfl, h⟩
def andQ (p K : Prop) (m : Mk K := .mk) : Prop := p ∧ K
@[congr] theorem andQ_congr {p p' K : Prop} {m : Mk K} (h : p = p') : andQ p K m = andQ p' K m := by rw [h]
@[simp, simp ↓] theorem andQ_true {K : Prop} {m : Mk K} : andQ True K m = K := by simp [andQ]
def iteP (t : Bool) (A B : Prop) (m : Mk A := .mk) (m' : Mk B := .mk) : Prop := (t = true → A) ∧ (t = false → B)
@[congr] theorem iteP_congr {t t' : Bool} {A B : Prop} {m : Mk A} {m' : Mk B} (h : t = t') : iteP t A B m m' = iteP t' A B m m' := by rw [h]
@[simp, simp ↓] theorem iteP_true {A B : Prop} {m : Mk A} {m' : Mk B} : iteP true A B m m' = A := by simp [iteP]
@[simp, simp ↓] theorem iteP_false {A B : Prop} {m : Mk A} {m' : Mk B} : iteP false A B m m' = B := by simp [iteP]
def guardP (t b : Bool) (A B : Prop) (m : Mk A := .mk) (m' : Mk B := .mk) : Prop := (t = b → A) ∧ (t ≠ b → B)
@[congr] theorem guardP_congr {t t' b : Bool} {A B : Prop} {m : Mk A} {m' : Mk B} (h : t = t') : guardP t b A B m m' = guardP t' b A B m m' := by rw [h]
@[simp, simp ↓] theorem guardP_tt {A B : Prop} {m : Mk A} {m' : Mk B} : guardP true true A B m m' = A := by simp [guardP]
@[simp, simp ↓] theorem guardP_ff {A B : Prop} {m : Mk A} {m' : Mk B} : guardP false false A B m m' = A := by simp [guardP]
@[simp, simp ↓] theorem guardP_tf {A B : Prop} {m : Mk A} {m' : Mk B} : guardP true false A B m m' = B := by simp [guardP]
@[simp, simp ↓] theorem guardP_ft {A B : Prop} {m : Mk A} {m' : Mk B} : guardP false true A B m m' = B := by simp [guardP]
def gateP (x : AV) (b : Bool) (A B : Prop) (m : Mk A := .mk) (m' : Mk B := .mk) : Prop := gate x b A B
@[congr] theorem gate_congr {x x' : AV} {b : Bool} {A B : Prop} {m : Mk A} {m' : Mk B} (h : x = x') : gateP x b A B m m' = gateP x' b A B m m' := by rw [h]
@[simp, simp ↓] theorem gate_lit {t b : Bool} {A B : Prop} {m : Mk A} {m' : Mk B} : gateP (.lit (.bool t)) b A B m m' = guardP t b A B m m' := by
  apply propext
  constructor
  · rintro (⟨u, e, k⟩ | ⟨e, _⟩)
    · simp only [AV.lit.injEq, Value.bool.injEq] at e; subst e; exact k
    · simp at e
  · intro k; exact .inl ⟨t, rfl, k⟩
@[simp, simp ↓] theorem gate_skip {b : Bool} {A B : Prop} {m : Mk A} {m' : Mk B} : gateP (.lit (.tuple #[])) b A B m m' = B := by
  apply propext
  constructor
  · rintro (⟨u, e, k⟩ | ⟨_, k⟩)
    · simp at e
    · exact k
  · intro k; exact .inr ⟨rfl, k⟩
@[congr] theorem wp_congr {E : Env} {rd : Option Nat} {c : AC} {ρ : Rho} {H : Hp} {Q : Post} : wp E rd c ρ H Q = wp E rd c ρ H Q := rfl
@[simp] theorem ex_pair {α β : Type} {a : α} {b : β} {K : α → β → Prop} : (∃ v h, (a = v ∧ b = h) ∧ K v h) ↔ K a b := ⟨fun ⟨_, _, ⟨e, f⟩, k⟩ => by subst e; subst f; exact k, fun k => ⟨_, _, ⟨rfl, rfl⟩, k⟩⟩
@[simp] theorem ex_three {α β γ : Type} {a : α} {b : β} {c : γ} {K : α → β → γ → Prop} : (∃ v h u, (a = v ∧ b = h ∧ c = u) ∧ K v h u) ↔ K a b c := ⟨fun ⟨_, _, _, ⟨e, f, g⟩, k⟩ => by subst e; subst f; subst g; exact k, fun k => ⟨_, _, _, ⟨rfl, rfl, rfl⟩, k⟩⟩

section
variable {E : Env} {rd : Option Nat} {ρ : Rho} {H : Hp}

def seqP (E : Env) (rd : Option Nat) (b : AC) (Q : Post) : Post := fun x ρ' H' => match x with | .nrm => wp E rd b ρ' H' Q | x => Q x ρ' H'
@[simp ↓] theorem seqP_nrm {b : AC} {Q : Post} : seqP E rd b Q .nrm ρ H = wp E rd b ρ H Q := _root_.id rfl
@[simp ↓] theorem seqP_ret {b : AC} {Q : Post} : seqP E rd b Q .ret ρ H = Q .ret ρ H := _root_.id rfl
@[simp ↓] theorem seqP_exit {b : AC} {Q : Post} {i : Nat} : seqP E rd b Q (.exit i) ρ H = Q (.exit i) ρ H := _root_.id rfl
def blockP (id : Nat) (Q : Post) : Post := fun x ρ' H' => match x with | .exit i => if i = id then Q .nrm ρ' H' else Q (.exit i) ρ' H' | x => Q x ρ' H'
@[simp ↓] theorem blockP_nrm {id : Nat} {Q : Post} : blockP id Q .nrm ρ H = Q .nrm ρ H := _root_.id rfl
@[simp ↓] theorem blockP_ret {id : Nat} {Q : Post} : blockP id Q .ret ρ H = Q .ret ρ H := _root_.id rfl
@[simp ↓] theorem blockP_exit {id i : Nat} {Q : Post} : blockP id Q (.exit i) ρ H = if i = id then Q .nrm ρ H else Q (.exit i) ρ H := _root_.id rfl
/-- What a round owes. -/
def roundP (I : Nat → Rho → Hp → Prop) (n : Nat) (Q : Post) : Post := fun x ρ' H' => match x with | .nrm => ∃ m, m < n ∧ I m ρ' H' | x => Q x ρ' H'
@[simp ↓] theorem roundP_nrm {I : Nat → Rho → Hp → Prop} {n : Nat} {Q : Post} : roundP I n Q .nrm ρ H = ∃ m, m < n ∧ I m ρ H := _root_.id rfl
@[simp ↓] theorem roundP_ret {I : Nat → Rho → Hp → Prop} {n : Nat} {Q : Post} : roundP I n Q .ret ρ H = Q .ret ρ H := _root_.id rfl
@[simp ↓] theorem roundP_exit {I : Nat → Rho → Hp → Prop} {n i : Nat} {Q : Post} : roundP I n Q (.exit i) ρ H = Q (.exit i) ρ H := _root_.id rfl
/-- What another round owes. -/
def againP (E : Env) (rd : Option Nat) (b : AC) (Q : Post) : Post := fun x ρ' H' => match x with | .nrm => wp E rd (.loop b) ρ' H' Q | x => Q x ρ' H'
@[simp ↓] theorem againP_nrm {b : AC} {Q : Post} : againP E rd b Q .nrm ρ H = wp E rd (.loop b) ρ H Q := _root_.id rfl
@[simp ↓] theorem againP_ret {b : AC} {Q : Post} : againP E rd b Q .ret ρ H = Q .ret ρ H := _root_.id rfl
@[simp ↓] theorem againP_exit {b : AC} {Q : Post} {i : Nat} : againP E rd b Q (.exit i) ρ H = Q (.exit i) ρ H := _root_.id rfl
theorem wp_round {b : AC} {Q : Post} (I : Nat → Rho → Hp → Prop) {n : Nat} (h0 : I n ρ H) (hs : ∀ n ρ H, I n ρ H → wp E rd b ρ H (roundP I n Q)) : wp E rd (.loop b) ρ H Q := wp_loop I h0 hs

@[simp ↓] theorem wp_skip {Q : Post} : wp E rd .skip ρ H Q = Q .nrm ρ H := _root_.id rfl
@[simp ↓] theorem wp_ret {Q : Post} : wp E rd .ret ρ H Q = Q .ret ρ H := _root_.id rfl
@[simp ↓] theorem wp_exit {id : Nat} {Q : Post} : wp E rd (.exit id) ρ H Q = Q (.exit id) ρ H := _root_.id rfl
@[simp ↓] theorem wp_seq {a b : AC} {Q : Post} : wp E rd (.seq a b) ρ H Q = wp E rd a ρ H (seqP E rd b Q) := _root_.id rfl
@[simp ↓] theorem wp_block {id : Nat} {b : AC} {Q : Post} : wp E rd (.block id b) ρ H Q = wp E rd b ρ H (blockP id Q) := _root_.id rfl
@[simp ↓] theorem wp_cond {c : Opd} {a b : AC} {Q : Post} : wp E rd (.cond c a b) ρ H Q = bindB (evR ρ c) fun t => iteP t (wp E rd a ρ H Q) (wp E rd b ρ H Q) := _root_.id rfl

/-- A row of operations. -/
def wpL (E : Env) (l : List AOper) (ρ : Rho) (H : Hp) (Q : Rho → Hp → Prop) : Prop := wpO E (l.map fun o => (o, 0)) ρ H Q
def wpD (E : Env) (l : List AOper) (q : List Nat) (ρ : Rho) (H : Hp) (Q : Rho → Hp → Prop) : Prop := wpO E (l.zip q) ρ H Q
def wpE (E : Env) (R : List Nat) (l : List AOper) (q : List Nat) (ρ : Rho) (H : Hp) (Q : Rho → Hp → Prop) : Prop := wpK E R (l.zip q) ρ H Q
def wpQ (E : Env) (b : Bool) (l : List AOper) (q : List Nat) (ρ : Rho) (H : Hp) (Q : Rho → Hp → Prop) : Prop := if b = true then wpE E [] l q ρ H Q else wpD E l q ρ H Q
@[congr] theorem wpQ_congr {b b' : Bool} {l : List AOper} {q : List Nat} {ρ : Rho} {H : Hp} {Q : Rho → Hp → Prop} (h : b = b') : wpQ E b l q ρ H Q = wpQ E b' l q ρ H Q := by rw [h]
@[simp ↓] theorem wp_ops {l : List AOper} {Q : Post} : wp E rd (.ops l) ρ H Q = wpL E l ρ H (Q .nrm) := _root_.id rfl
@[simp ↓] theorem wp_dops {id : Nat} {l : List AOper} {q : List Nat} {df : List (Nat × Nat)} {Q : Post} : wp E rd (.dops id l q df) ρ H Q = andQ (difR ρ df = true) (wpQ E (q.contains 3) l q ρ H (Q .nrm)) := _root_.id rfl
@[simp ↓] theorem wpQ_false {l : List AOper} {q : List Nat} {Q : Rho → Hp → Prop} : wpQ E false l q ρ H Q = wpD E l q ρ H Q := _root_.id rfl
@[simp ↓] theorem wpQ_true {l : List AOper} {q : List Nat} {Q : Rho → Hp → Prop} : wpQ E true l q ρ H Q = wpE E [] l q ρ H Q := _root_.id rfl
@[simp ↓] theorem wpE_nil {R q : List Nat} {Q : Rho → Hp → Prop} : wpE E R [] q ρ H Q = Q ρ H := _root_.id rfl
theorem wpE_cons0 {R : List Nat} {d : Option Nat} {op : AOp} {r : List AOper} {q : Nat} {qs : List Nat} {Q : Rho → Hp → Prop} : wpE E R (⟨d, op, none⟩ :: r) (q :: qs) ρ H Q = ((q = 3 → noKill R (killR ⟨d, op, none⟩ ρ) = true) ∧ wpA E (lvQ q) op ρ H (fun v H' => wpE E (rdR ⟨d, op, none⟩ ρ ++ R) r qs (updO ρ d v) H' Q)) := _root_.id rfl
@[simp ↓] theorem wpE_load {R : List Nat} {d n : Option Nat} {a : Opd} {r : List AOper} {q : Nat} {qs : List Nat} {Q : Rho → Hp → Prop} : wpE E R (⟨d, .load n a, none⟩ :: r) (q :: qs) ρ H Q = wpA E (lvQ q) (.load n a) ρ H (fun v H' => wpE E (ridOf (evR ρ a) ++ R) r qs (updO ρ d v) H' Q) := by
  rw [wpE_cons0]
  have : noKill R (killR ⟨d, .load n a, none⟩ ρ) = true := rfl
  simp only [this, implies_true, true_and]
  rfl
@[simp ↓] theorem wpE_append {R : List Nat} {d : Option Nat} {e : TypeId} {sz b : Nat} {s x : Opd} {r : List AOper} {qs : List Nat} {Q : Rho → Hp → Prop} : wpE E R (⟨d, .append e sz b s x, none⟩ :: r) (3 :: qs) ρ H Q = andQ (noKill R (kid (evR ρ s)) = true) (wpA E 0 (.append e sz b s x) ρ H (fun v H' => wpE E R r qs (updO ρ d v) H' Q)) := by
  rw [wpE_cons0]
  unfold andQ
  simp only [forall_const]
  rfl
@[simp ↓] theorem wpE_store {R : List Nat} {d : Option Nat} {n : Nat} {a x : Opd} {r : List AOper} {qs : List Nat} {Q : Rho → Hp → Prop} : wpE E R (⟨d, .store n a x, none⟩ :: r) (3 :: qs) ρ H Q = andQ (noKill R (sid (evR ρ a)) = true) (wpA E 0 (.store n a x) ρ H (fun v H' => wpE E R r qs (updO ρ d v) H' Q)) := by
  rw [wpE_cons0]
  unfold andQ
  simp only [forall_const]
  rfl
@[simp ↓] theorem wpE_store0 {R : List Nat} {d : Option Nat} {n : Nat} {a x : Opd} {r : List AOper} {qs : List Nat} {Q : Rho → Hp → Prop} : wpE E R (⟨d, .store n a x, none⟩ :: r) (0 :: qs) ρ H Q = wpA E 0 (.store n a x) ρ H (fun v H' => wpE E R r qs (updO ρ d v) H' Q) := by
  rw [wpE_cons0]
  simp only [show ((0 : Nat) = 3) = False by simp, false_implies, true_and]
  rfl
theorem wpE_other {R : List Nat} {d : Option Nat} {op : AOp} {r : List AOper} {q : Nat} {qs : List Nat} {Q : Rho → Hp → Prop} (h1 : isLd op = false) (h2 : isKl op = false) : wpE E R (⟨d, op, none⟩ :: r) (q :: qs) ρ H Q = wpA E (lvQ q) op ρ H (fun v H' => wpE E R r qs (updO ρ d v) H' Q) := by
  rw [wpE_cons0]
  have hk : killR ⟨d, op, none⟩ ρ = none := by
    unfold killR
    split
    · rename_i e; simp only at e; rw [e] at h2; simp [isKl] at h2
    · rename_i e; simp only at e; rw [e] at h2; simp [isKl] at h2
    · rename_i e; simp only at e; rw [e] at h2; simp [isKl] at h2
    · rfl
  have hr : rdR ⟨d, op, none⟩ ρ = [] := by
    unfold rdR
    split
    · rename_i e; simp only at e; rw [e] at h1; simp [isLd] at h1
    · rfl
  have : noKill R (killR ⟨d, op, none⟩ ρ) = true := by rw [hk]; rfl
  simp only [this, implies_true, true_and, hr, List.nil_append]
@[simp] theorem lvQ_0 : lvQ 0 = 0 := _root_.id rfl
@[simp] theorem lvQ_1 : lvQ 1 = 1 := _root_.id rfl
@[simp] theorem lvQ_2 : lvQ 2 = 2 := _root_.id rfl
@[simp] theorem lvQ_3 : lvQ 3 = 0 := _root_.id rfl
attribute [simp] noKill kid ridOf sid
@[simp] theorem difR_nil : difR ρ [] = true := _root_.id rfl
@[simp ↓] theorem wpL_nil {Q : Rho → Hp → Prop} : wpL E [] ρ H Q = Q ρ H := _root_.id rfl
@[simp ↓] theorem wpL_cons {d : Option Nat} {op : AOp} {r : List AOper} {Q : Rho → Hp → Prop} : wpL E (⟨d, op, none⟩ :: r) ρ H Q = wpA E 0 op ρ H (fun v H' => wpL E r (updO ρ d v) H' Q) := _root_.id rfl
@[simp ↓] theorem wpL_guard {d : Option Nat} {op : AOp} {g : Nat} {b : Bool} {r : List AOper} {Q : Rho → Hp → Prop} : wpL E (⟨d, op, some (g, b)⟩ :: r) ρ H Q =
    gateP (ρ g) b (wpA E 0 op ρ H fun v H' => wpL E r (updO ρ d v) H' Q) (wpL E r (updO ρ d avU) H Q) := _root_.id rfl
@[simp ↓] theorem wpD_nil {q : List Nat} {Q : Rho → Hp → Prop} : wpD E [] q ρ H Q = Q ρ H := _root_.id rfl
@[simp ↓] theorem wpD_cons {d : Option Nat} {op : AOp} {r : List AOper} {q : Nat} {qs : List Nat} {Q : Rho → Hp → Prop} : wpD E (⟨d, op, none⟩ :: r) (q :: qs) ρ H Q = wpA E q op ρ H (fun v H' => wpD E r qs (updO ρ d v) H' Q) := _root_.id rfl
@[simp ↓] theorem wpD_guard {d : Option Nat} {op : AOp} {g : Nat} {b : Bool} {r : List AOper} {q : Nat} {qs : List Nat} {Q : Rho → Hp → Prop} : wpD E (⟨d, op, some (g, b)⟩ :: r) (q :: qs) ρ H Q =
    gateP (ρ g) b (wpA E q op ρ H fun v H' => wpD E r qs (updO ρ d v) H' Q) (wpD E r qs (updO ρ d avU) H Q) := _root_.id rfl

/-! ### Operations that write nothing -/
variable {q : Nat} {Q : AV → Hp → Prop}
theorem wpA_map {ao : AOp} {o : Option AV} (h : ∀ d, aopER E ρ { l := H.l, d := d } ao = o.map fun v => (v, none)) : wpA E q ao ρ H Q ↔ ∃ v, o = some v ∧ Q v H := by
  have h0 : aopER E ρ H ao = o.map fun v => (v, none) := h H.d
  have h1 := h none
  unfold wpA
  cases o with
  | none => split <;> simp [h0, h1]
  | some u =>
    simp only [Option.map_some] at h0 h1
    split
    · rw [h0]
      constructor
      · rintro ⟨v, h, e, k⟩; simp only [Option.some.injEq, Prod.mk.injEq] at e; obtain ⟨rfl, rfl⟩ := e; exact ⟨_, rfl, k⟩
      · rintro ⟨v, e, k⟩; simp only [Option.some.injEq] at e; subst e; exact ⟨_, _, rfl, k⟩
    · rw [h1]
      constructor
      · rintro ⟨v, h, e, k⟩; simp only [Option.some.injEq, Prod.mk.injEq] at e; obtain ⟨rfl, rfl⟩ := e; exact ⟨_, rfl, k⟩
      · rintro ⟨v, e, k⟩; simp only [Option.some.injEq] at e; subst e; exact ⟨_, _, rfl, k⟩
    · rw [h0]
      constructor
      · rintro ⟨v, e, k⟩; simp only [Option.some.injEq, Prod.mk.injEq, and_true] at e; subst e; exact ⟨_, rfl, k⟩
      · rintro ⟨v, e, k⟩; simp only [Option.some.injEq] at e; subst e; exact ⟨_, rfl, k⟩

theorem ex_map {α β : Type} {o : Option α} {f : α → β} {K : β → Prop} : (∃ v, o.map f = some v ∧ K v) ↔ ∃ b, o = some b ∧ K (f b) := by
  cases o <;> simp

theorem wpA_mov_iff {x : Opd} : wpA E q (.mov x) ρ H Q ↔ Q (evR ρ x) H := (wpA_map (o := some (evR ρ x)) (fun _ => rfl)).trans (by simp)
theorem wpA_pick_iff {c a b : Opd} : wpA E q (.pick c a b) ρ H Q ↔ ∃ t, evR ρ c = avBool t ∧ Q (if t = true then evR ρ a else evR ρ b) H := by
  refine (wpA_map (o := match evR ρ c with | .lit (.bool t) => some (if t = true then evR ρ a else evR ρ b) | _ => none) (fun d => ?_)).trans ?_
  · show (match evR ρ c with | .lit (.bool t) => some (if t = true then evR ρ a else evR ρ b, (none : Option Hp)) | _ => none) = _
    generalize evR ρ c = y
    split
    · rfl
    · first | rfl | (split <;> simp_all)
  · split
    · rename_i t ht
      simp [ht]
    · rename_i hn
      simp only [reduceCtorEq, false_and, exists_false, false_iff, not_exists, not_and]
      intro t ht
      exact absurd ht (hn t)
theorem wpA_bin_iff {op : BinOp} {x y : Opd} : wpA E q (.bin op x y) ρ H Q ↔ ∃ v, abin op (evR ρ x) (evR ρ y) = some v ∧ Q v H := wpA_map fun _ => rfl
theorem wpA_un_iff {op : UnOp} {x : Opd} : wpA E q (.un op x) ρ H Q ↔ ∃ v, aun op (evR ρ x) = some v ∧ Q v H := wpA_map fun _ => rfl
theorem wpA_eq_iff {neg : Bool} {d : EqD} {x y : Opd} : wpA E q (.eq neg d x y) ρ H Q ↔ ∃ b, aeq d (evR ρ x) (evR ρ y) = some b ∧ Q (avBool (if neg then !b else b)) H := by
  refine (wpA_map (o := (aeq d (evR ρ x) (evR ρ y)).map fun b => avBool (if neg then !b else b)) (fun _ => ?_)).trans ?_
  · show (aeq d (evR ρ x) (evR ρ y)).map (fun b => (avBool (if neg then !b else b), (none : Option Hp))) = _
    rw [Option.map_map]; rfl
  · exact ex_map
theorem wpA_load_iff {n : Option Nat} {a : Opd} : wpA E q (.load n a) ρ H Q ↔ ∃ v, aload H n (evR ρ a) = some v ∧ Q v H := wpA_map fun _ => rfl
theorem wpA_nilchk_iff {x : Opd} : wpA E q (.nilchk x) ρ H Q ↔ (evR ρ x).isRef = true ∧ Q (evR ρ x) H := by
  refine (wpA_map (o := if (evR ρ x).isRef then some (evR ρ x) else none) (fun _ => ?_)).trans ?_
  · show (if (evR ρ x).isRef then some (evR ρ x, (none : Option Hp)) else none) = _
    split <;> rfl
  · split <;> simp_all
theorem wpA_toInt_iff {k : IntKind} {x : Opd} : wpA E q (.conv (.toInt k) x) ρ H Q ↔ ∃ k' n, evR ρ x = .lit (.int k' n) ∧ Q (avInt k (k.wrap n)) H := by
  refine (wpA_map (o := match evR ρ x with | .lit (.int _ n) => some (avInt k (k.wrap n)) | _ => none) (fun _ => ?_)).trans ?_
  · show aconv _ (.toInt k) (evR ρ x) = _
    rw [aconv_toInt]
    generalize evR ρ x = y
    split
    · rfl
    · first | rfl | (split <;> simp_all)
  · split
    · rename_i k' n hx; rw [hx]; simp
    · rename_i hn
      simp only [reduceCtorEq, false_and, exists_false, false_iff, not_exists, not_and]
      intro k' n hx
      exact absurd hx (hn _ _)
theorem wpA_same_iff {x : Opd} : wpA E q (.conv .same x) ρ H Q ↔ ∃ s, evR ρ x = .lit (.string s) ∧ Q (.lit (.string s)) H := by
  refine (wpA_map (o := match evR ρ x with | .lit (.string s) => some (.lit (.string s)) | _ => none) (fun _ => ?_)).trans ?_
  · show aconv _ .same (evR ρ x) = _
    rw [aconv_same]
    generalize evR ρ x = y
    split
    · rfl
    · first | rfl | (split <;> simp_all)
  · split
    · rename_i n hx; rw [hx]; simp
    · rename_i hn
      simp only [reduceCtorEq, false_and, exists_false, false_iff, not_exists, not_and]
      intro n hx
      exact absurd hx (hn _)
theorem wpA_str_iff {x : Opd} : wpA E q (.conv .str x) ρ H Q ↔ ∃ es b, asElems H (evR ρ x) = some es ∧ bytesOf es = some b ∧ Q (avStr b) H := by
  refine (wpA_map (o := (asElems H (evR ρ x)).bind fun es => (bytesOf es).map avStr) (fun _ => ?_)).trans ?_
  · show aconv _ .str (evR ρ x) = _
    rw [aconv_str]
    show ((asElems H (evR ρ x)).bind fun es => (bytesOf es).bind fun b => some (avStr b, (none : Option Hp))) = _
    cases asElems H (evR ρ x) with
    | none => rfl
    | some es =>
      simp only [Option.bind_some]
      cases bytesOf es <;> rfl
  · cases asElems H (evR ρ x) with
    | none => simp
    | some es => simp only [Option.bind_some, Option.some.injEq, exists_and_left, exists_eq_left']; rw [ex_map]
theorem wpA_mkfn_iff {f : FuncId} {fs cs : List Opd} : wpA E q (.mkfn f fs cs) ρ H Q ↔ Q (.fn f (fs.map (evR ρ)) (cs.map (evR ρ))) H := (wpA_map (o := some (.fn f (fs.map (evR ρ)) (cs.map (evR ρ)))) (fun _ => rfl)).trans (by simp)
theorem wpA_build_iff {z : List AV} {ps : List (Nat × Nat × Opd)} : wpA E q (.build z ps) ρ H Q ↔ ∃ cs, fillA z (ps.map fun (o, s, x) => (o, s, evR ρ x)) = some cs ∧ Q (.agg cs) H := by
  refine (wpA_map (o := (fillA z (ps.map fun (o, s, x) => (o, s, evR ρ x))).map .agg) (fun _ => ?_)).trans ?_
  · show (fillA z (ps.map fun (o, s, x) => (o, s, evR ρ x))).map (fun cs => (AV.agg cs, (none : Option Hp))) = _
    rw [Option.map_map]; rfl
  · exact ex_map
theorem wpA_slstr_iff {x : Opd} {lo hi : Option Opd} : wpA E q (.slstr x lo hi) ρ H Q ↔ ∃ v, aslstr (evR ρ x) (lo.map (evR ρ)) (hi.map (evR ρ)) = some v ∧ Q v H := wpA_map fun _ => rfl
theorem wpA_slice_iff {sz : Nat} {x : Opd} {lo hi : Option Opd} : wpA E q (.slice sz x lo hi) ρ H Q ↔ ∃ v, aslice sz (evR ρ x) (lo.map (evR ρ)) (hi.map (evR ρ)) = some v ∧ Q v H := wpA_map fun _ => rfl
theorem wpA_faddr_iff {off : Nat} {x : Opd} : wpA E q (.faddr off x) ρ H Q ↔ ∃ v, afaddr off (evR ρ x) = some v ∧ Q v H := wpA_map fun _ => rfl
theorem wpA_field_iff {off : Nat} {n : Option Nat} {x : Opd} : wpA E q (.field off n x) ρ H Q ↔ ∃ v, afield off n (evR ρ x) = some v ∧ Q v H := wpA_map fun _ => rfl
theorem wpA_iaddr_iff {sz : Nat} {x i : Opd} : wpA E q (.iaddr sz x i) ρ H Q ↔ ∃ v, aiaddr sz (evR ρ x) (evR ρ i) = some v ∧ Q v H := wpA_map fun _ => rfl
theorem wpA_sidx_iff {x i : Opd} : wpA E q (.sidx x i) ρ H Q ↔ ∃ v, asidx (evR ρ x) (evR ρ i) = some v ∧ Q v H := wpA_map fun _ => rfl
def aproj (x : AV) (i : Nat) : Option AV := match x with | .tup xs => xs[i]? | .lit (.tuple xs) => (xs[i]?).map .lit | _ => none
@[simp] theorem aproj_tup {xs : List AV} {i : Nat} : aproj (.tup xs) i = xs[i]? := _root_.id rfl
theorem wpA_extract_iff {t : Opd} {i : Nat} : wpA E q (.extract t i) ρ H Q ↔ ∃ v, aproj (evR ρ t) i = some v ∧ Q v H := by
  refine wpA_map fun _ => ?_
  show (match evR ρ t with | .tup xs => (xs[i]?).map fun v => (v, (none : Option Hp)) | .lit (.tuple xs) => (xs[i]?).map fun v => (AV.lit v, none) | _ => none) = _
  generalize evR ρ t = y
  unfold aproj
  split
  · rfl
  · simp only [Option.map_map]; rfl
  · rfl
theorem wpA_len_iff {x : Opd} : wpA E q (.len x) ρ H Q ↔ ∃ n : Nat, asLen (evR ρ x) = some n ∧ Q (avInt .i64 (n : Int)) H := by
  refine (wpA_map (o := (asLen (evR ρ x)).map fun (n : Nat) => avInt .i64 (n : Int)) (fun _ => ?_)).trans ex_map
  show (asLen (evR ρ x)).map (fun (n : Nat) => (avInt .i64 (n : Int), (none : Option Hp))) = _
  rw [Option.map_map]; rfl
theorem wpA_lens_iff {x : Opd} : wpA E q (.lens x) ρ H Q ↔ ∃ s, evR ρ x = .lit (.string s) ∧ Q (avInt .i64 ((bl s).length : Int)) H := by
  refine (wpA_map (o := match evR ρ x with | .lit (.string s) => some (avInt .i64 ((bl s).length : Int)) | _ => none) (fun _ => ?_)).trans ?_
  · show (match evR ρ x with | .lit (.string s) => some (avInt .i64 ((bl s).length : Int), (none : Option Hp)) | _ => none) = _
    generalize evR ρ x = y
    split
    · rfl
    · first | rfl | (split <;> simp_all)
  · split
    · rename_i n hx; rw [hx]; simp
    · rename_i hn
      simp only [reduceCtorEq, false_and, exists_false, false_iff, not_exists, not_and]
      intro n hx
      exact absurd hx (hn _)
theorem wpA_lenm_iff {x : Opd} : wpA E q (.lenm x) ρ H Q ↔ ∃ v, aLenm H (evR ρ x) = some v ∧ Q v H := wpA_map fun _ => rfl
theorem wpA_lookup_iff {kd : KD} {z : AV} {m k : Opd} {ok : Bool} : wpA E q (.lookup kd z m k ok) ρ H Q ↔ ∃ v, ((asKey kd (evR ρ k)).bind fun k => aLookup H kd z ok k (evR ρ m)) = some v ∧ Q v H := by
  refine wpA_map fun _ => ?_
  show ((asKey kd (evR ρ k)).bind fun k => (aLookup H kd z ok k (evR ρ m)).map fun v => (v, (none : Option Hp))) = _
  cases asKey kd (evR ρ k) <;> rfl
theorem wpA_mnmx_iff {mx : Bool} {x : Opd} {xs : List Opd} : wpA E q (.mnmx mx (x :: xs)) ρ H Q ↔ ∃ v, mnmx mx (evR ρ x) (xs.map (evR ρ)) = some v ∧ Q v H := wpA_map fun _ => rfl

/-! ### Operations that write -/
theorem wpA_0 {ao : AOp} : wpA E 0 ao ρ H Q ↔ ∃ v h, aopER E ρ H ao = some (v, h) ∧ Q v (h.getD H) := Iff.rfl
@[simp] theorem callV_fn {f : FuncId} {fs cs args : List AV} : callV E (.fn f fs cs) args H = E.call f (fs ++ args ++ cs) H := _root_.id rfl
@[simp] theorem callV_yld {l : Nat} {args : List AV} : callV E (.yld l) args H = E.yld l args H := _root_.id rfl
theorem wpA_store_iff {n : Nat} {a x : Opd} : wpA E 0 (.store n a x) ρ H Q ↔ ∃ H', astore H n (evR ρ a) (evR ρ x) = some H' ∧ Q avU H' := by
  rw [wpA_0]
  show (∃ v h, (astore H n (evR ρ a) (evR ρ x)).map (fun H' => (avU, some H')) = some (v, h) ∧ Q v (h.getD H)) ↔ _
  cases astore H n (evR ρ a) (evR ρ x) <;> simp
theorem wpA_box_iff {t : TypeId} {x : Opd} : wpA E 0 (.box t x) ρ H Q ↔ (evR ρ x).good = true ∧ Q (.ptr H.l.length 0) (halloc H (.cells (evR ρ x).cells t)) := by
  rw [wpA_0]
  show (∃ v h, (if (evR ρ x).good then some (AV.ptr H.l.length 0, some (halloc H (.cells (evR ρ x).cells t))) else none) = some (v, h) ∧ Q v (h.getD H)) ↔ _
  split <;> simp_all
theorem wpA_new_iff {t : TypeId} {z : AV} : wpA E 0 (.new t z) ρ H Q ↔ z.good = true ∧ Q (.ptr H.l.length 0) (halloc H (.cells z.cells t)) := by
  rw [wpA_0]
  show (∃ v h, (if z.good then some (AV.ptr H.l.length 0, some (halloc H (.cells z.cells t))) else none) = some (v, h) ∧ Q v (h.getD H)) ↔ _
  split <;> simp_all
theorem wpA_mkmap_iff : wpA E 0 .mkmap ρ H Q ↔ Q (.map H.l.length) (halloc H (.map [] 0)) := by
  rw [wpA_0]
  show (∃ v h, some (AV.map H.l.length, some (halloc H (.map [] 0))) = some (v, h) ∧ Q v (h.getD H)) ↔ _
  simp
theorem wpA_append_iff {e : TypeId} {sz bytes : Nat} {s x : Opd} : wpA E 0 (.append e sz bytes s x) ρ H Q ↔ ∃ ys v h, asElems H (evR ρ x) = some ys ∧ appendOn H e sz bytes (evR ρ s) ys = some (v, h) ∧ Q v (h.getD H) := by
  rw [wpA_0]
  show (∃ v h, (asElems H (evR ρ x)).bind (appendOn H e sz bytes (evR ρ s)) = some (v, h) ∧ Q v (h.getD H)) ↔ _
  cases asElems H (evR ρ x) <;> simp
theorem wpA_appends_iff {e : TypeId} {sz bytes : Nat} {s x : Opd} : wpA E 0 (.appends e sz bytes s x) ρ H Q ↔ ∃ ys v h, srcStr (evR ρ x) = some ys ∧ appendOn H e sz bytes (evR ρ s) ys = some (v, h) ∧ Q v (h.getD H) := by
  rw [wpA_0]
  show (∃ v h, (srcStr (evR ρ x)).bind (appendOn H e sz bytes (evR ρ s)) = some (v, h) ∧ Q v (h.getD H)) ↔ _
  cases srcStr (evR ρ x) <;> simp
theorem wpA_bslice_iff {e : TypeId} {sz len : Nat} {lay : Option Nat} {z : List AV} {ps : List (Nat × Nat × Opd)} : wpA E 0 (.bslice e sz lay len z ps) ρ H Q ↔
    ∃ cs, fillA (repl len z) (ps.map fun (o, s, x) => (o, s, evR ρ x)) = some cs ∧ (chunk sz lay len cs).all (fun y => y.good && y.cells.length == sz && (lay.isSome || y.one)) = true ∧ Q (.ra sz H.l.length 0 len) (halloc H (.arr sz (chunk sz lay len cs) e)) := by
  rw [wpA_0]
  show (∃ v h, ((fillA (repl len z) (ps.map fun (o, s, x) => (o, s, evR ρ x))).bind fun cs =>
      if (chunk sz lay len cs).all (fun y => y.good && y.cells.length == sz && (lay.isSome || y.one)) then some (AV.ra sz H.l.length 0 len, some (halloc H (.arr sz (chunk sz lay len cs) e))) else none) = some (v, h) ∧ Q v (h.getD H)) ↔ _
  cases fillA (repl len z) (ps.map fun (o, s, x) => (o, s, evR ρ x)) with
  | none => simp
  | some cs =>
    simp only [Option.bind_some, Option.some.injEq, exists_eq_left']
    split
    · rename_i h; simp only [h, true_and, Option.some.injEq, Prod.mk.injEq, ex_pair, Option.getD_some]
    · rename_i h; simp only [h, false_and, reduceCtorEq, exists_false]
theorem wpA_mkslice_iff {e : TypeId} {sz bytes : Nat} {z : AV} {l c : Opd} : wpA E 0 (.mkslice e sz bytes z l c) ρ H Q ↔
    ∃ k k' n, evR ρ l = .lit (.int k n) ∧ evR ρ c = .lit (.int k' n) ∧ 0 ≤ n ∧ n.toNat * bytes ≤ roomMax ∧ z.good = true ∧ z.cells.length = sz ∧ Q (.ra sz H.l.length 0 n.toNat) (halloc H (.arr sz (List.replicate n.toNat z) e)) := by
  rw [wpA_0]
  show (∃ v h, (match evR ρ l, evR ρ c with
    | .lit (.int _ n), .lit (.int _ m) =>
      if 0 ≤ n ∧ n = m ∧ m.toNat * bytes ≤ roomMax ∧ z.good = true ∧ z.cells.length = sz then
        some (AV.ra sz H.l.length 0 n.toNat, some (halloc H (.arr sz (List.replicate n.toNat z) e)))
      else none
    | _, _ => none) = some (v, h) ∧ Q v (h.getD H)) ↔ _
  split
  · rename_i k n k' m h1 h2
    constructor
    · rintro ⟨v, h, h3, h4⟩
      split at h3
      · rename_i hc
        obtain ⟨c1, rfl, c2, c3, c4⟩ := hc
        simp only [Option.some.injEq, Prod.mk.injEq] at h3
        obtain ⟨rfl, rfl⟩ := h3
        exact ⟨k, k', n, h1, h2, c1, c2, c3, c4, h4⟩
      · simp at h3
    · rintro ⟨a, b, i, h3, h4, c1, c2, c3, c4, c5⟩
      rw [h1] at h3; rw [h2] at h4
      simp only [AV.lit.injEq, Value.int.injEq] at h3 h4
      obtain ⟨rfl, rfl⟩ := h3
      obtain ⟨rfl, rfl⟩ := h4
      exact ⟨_, _, if_pos ⟨c1, rfl, c2, c3, c4⟩, c5⟩
  · rename_i hn
    simp only [reduceCtorEq, false_and, exists_false, false_iff, not_exists, not_and]
    intro k k' n h1 h2
    exact absurd h2 (hn _ _ _ _ h1)
theorem wpA_mapupd_iff {kd : KD} {m k v : Opd} : wpA E 0 (.mapupd kd m k v) ρ H Q ↔ ∃ key H', asKey kd (evR ρ k) = some key ∧ aMapupd H kd key (evR ρ v) (evR ρ m) = some H' ∧ Q avU H' := by
  rw [wpA_0]
  show (∃ x h, ((asKey kd (evR ρ k)).bind fun k => (aMapupd H kd k (evR ρ v) (evR ρ m)).map fun H' => (avU, some H')) = some (x, h) ∧ Q x (h.getD H)) ↔ _
  cases asKey kd (evR ρ k) with
  | none => simp
  | some key => simp only [Option.bind_some]; cases hm : aMapupd H kd key (evR ρ v) (evR ρ m) <;> simp [hm]
theorem wpA_delete_iff {kd : KD} {m k : Opd} : wpA E 0 (.delete kd m k) ρ H Q ↔ ∃ key h, asKey kd (evR ρ k) = some key ∧ aDelete H kd key (evR ρ m) = some h ∧ Q avU (h.getD H) := by
  rw [wpA_0]
  show (∃ x h, ((asKey kd (evR ρ k)).bind fun k => (aDelete H kd k (evR ρ m)).map fun H' => (avU, H')) = some (x, h) ∧ Q x (h.getD H)) ↔ _
  cases asKey kd (evR ρ k) with
  | none => simp
  | some key => simp only [Option.bind_some]; cases hm : aDelete H kd key (evR ρ m) <;> simp [hm]
theorem wpA_clear_iff {sz : Nat} {z : AV} {x : Opd} : wpA E 0 (.clear sz z x) ρ H Q ↔ ∃ h, aClear H sz z (evR ρ x) = some h ∧ Q avU (h.getD H) := by
  rw [wpA_0]
  show (∃ v h, ((aClear H sz z (evR ρ x)).map fun H' => (avU, H')) = some (v, h) ∧ Q v (h.getD H)) ↔ _
  cases hm : aClear H sz z (evR ρ x) <;> simp [hm]
theorem wpA_bytes_iff {e : TypeId} {x : Opd} : wpA E 0 (.conv (.bytes e) x) ρ H Q ↔ ∃ s, evR ρ x = .lit (.string s) ∧ (bl s).length ≤ roomMax ∧ Q (.ra 1 H.l.length 0 (bl s).length) (halloc H (.arr 1 ((bl s).map avByte) e)) := by
  rw [wpA_0]
  show (∃ v h, aconv H (.bytes e) (evR ρ x) = some (v, h) ∧ Q v (h.getD H)) ↔ _
  by_cases hs : ∃ s, evR ρ x = .lit (.string s)
  · obtain ⟨s, hs⟩ := hs
    rw [hs]
    show (∃ v h, (if (bl s).length ≤ roomMax then some (AV.ra 1 H.l.length 0 (bl s).length, some (halloc H (.arr 1 ((bl s).map avByte) e))) else none) = some (v, h) ∧ Q v (h.getD H)) ↔ _
    split
    · simp_all
    · rename_i hn; simp [hn]
  · constructor
    · rintro ⟨v, h, h1, h2⟩
      unfold aconv at h1
      split at h1 <;> simp_all
    · rintro ⟨s, h1, _⟩
      exact absurd ⟨s, h1⟩ hs
/-! ### The same, by combinators -/
@[simp ↓] theorem wpA_mov {x : Opd} : wpA E q (.mov x) ρ H Q = Q (evR ρ x) H := propext wpA_mov_iff
@[simp ↓] theorem wpA_pick {c a b : Opd} : wpA E q (.pick c a b) ρ H Q = bindB (evR ρ c) fun t => Q (if t = true then evR ρ a else evR ρ b) H := propext wpA_pick_iff
@[simp ↓] theorem wpA_bin {op : BinOp} {x y : Opd} : wpA E q (.bin op x y) ρ H Q = bindO (abin op (evR ρ x) (evR ρ y)) fun v => Q v H := propext wpA_bin_iff
@[simp ↓] theorem wpA_un {op : UnOp} {x : Opd} : wpA E q (.un op x) ρ H Q = bindO (aun op (evR ρ x)) fun v => Q v H := propext wpA_un_iff
@[simp ↓] theorem wpA_eq {neg : Bool} {d : EqD} {x y : Opd} : wpA E q (.eq neg d x y) ρ H Q = bindO (aeq d (evR ρ x) (evR ρ y)) fun b => Q (avBool (if neg = true then !b else b)) H := propext wpA_eq_iff
@[simp ↓] theorem wpA_load {n : Option Nat} {a : Opd} : wpA E q (.load n a) ρ H Q = bindO (aload H n (evR ρ a)) fun v => Q v H := propext wpA_load_iff
@[simp ↓] theorem wpA_nilchk {x : Opd} : wpA E q (.nilchk x) ρ H Q = andQ ((evR ρ x).isRef = true) (Q (evR ρ x) H) := propext wpA_nilchk_iff
@[simp ↓] theorem wpA_toInt {k : IntKind} {x : Opd} : wpA E q (.conv (.toInt k) x) ρ H Q = bindI (evR ρ x) fun n => Q (avInt k (k.wrap n)) H := propext wpA_toInt_iff
@[simp ↓] theorem wpA_same {x : Opd} : wpA E q (.conv .same x) ρ H Q = bindS (evR ρ x) fun s => Q (.lit (.string s)) H := propext wpA_same_iff
@[simp ↓] theorem wpA_str {x : Opd} : wpA E q (.conv .str x) ρ H Q = bindO ((asElems H (evR ρ x)).bind bytesOf) fun b => Q (avStr b) H := by
  rw [propext wpA_str_iff]
  unfold bindO
  cases asElems H (evR ρ x) <;> simp
@[simp ↓] theorem wpA_mkfn {f : FuncId} {fs cs : List Opd} : wpA E q (.mkfn f fs cs) ρ H Q = Q (.fn f (fs.map (evR ρ)) (cs.map (evR ρ))) H := propext wpA_mkfn_iff
@[simp ↓] theorem wpA_build {z : List AV} {ps : List (Nat × Nat × Opd)} : wpA E q (.build z ps) ρ H Q = bindO (fillA z (ps.map fun (o, s, x) => (o, s, evR ρ x))) fun cs => Q (.agg cs) H := propext wpA_build_iff
@[simp ↓] theorem wpA_slstr {x : Opd} {lo hi : Option Opd} : wpA E q (.slstr x lo hi) ρ H Q = bindO (aslstr (evR ρ x) (lo.map (evR ρ)) (hi.map (evR ρ))) fun v => Q v H := propext wpA_slstr_iff
@[simp ↓] theorem wpA_slice {sz : Nat} {x : Opd} {lo hi : Option Opd} : wpA E q (.slice sz x lo hi) ρ H Q = bindO (aslice sz (evR ρ x) (lo.map (evR ρ)) (hi.map (evR ρ))) fun v => Q v H := propext wpA_slice_iff
@[simp ↓] theorem wpA_faddr {off : Nat} {x : Opd} : wpA E q (.faddr off x) ρ H Q = bindO (afaddr off (evR ρ x)) fun v => Q v H := propext wpA_faddr_iff
@[simp ↓] theorem wpA_field {off : Nat} {n : Option Nat} {x : Opd} : wpA E q (.field off n x) ρ H Q = bindO (afield off n (evR ρ x)) fun v => Q v H := propext wpA_field_iff
@[simp ↓] theorem wpA_iaddr {sz : Nat} {x i : Opd} : wpA E q (.iaddr sz x i) ρ H Q = bindO (aiaddr sz (evR ρ x) (evR ρ i)) fun v => Q v H := propext wpA_iaddr_iff
@[simp ↓] theorem wpA_sidx {x i : Opd} : wpA E q (.sidx x i) ρ H Q = bindO (asidx (evR ρ x) (evR ρ i)) fun v => Q v H := propext wpA_sidx_iff
@[simp ↓] theorem wpA_extract {t : Opd} {i : Nat} : wpA E q (.extract t i) ρ H Q = bindO (aproj (evR ρ t) i) fun v => Q v H := propext wpA_extract_iff
@[simp ↓] theorem wpA_len {x : Opd} : wpA E q (.len x) ρ H Q = bindO (asLen (evR ρ x)) fun n => Q (avInt .i64 (n : Int)) H := propext wpA_len_iff
@[simp ↓] theorem wpA_lens {x : Opd} : wpA E q (.lens x) ρ H Q = bindS (evR ρ x) fun s => Q (avInt .i64 ((bl s).length : Int)) H := propext wpA_lens_iff
@[simp ↓] theorem wpA_lenm {x : Opd} : wpA E q (.lenm x) ρ H Q = bindO (aLenm H (evR ρ x)) fun v => Q v H := propext wpA_lenm_iff
@[simp ↓] theorem wpA_lookup {kd : KD} {z : AV} {m k : Opd} {ok : Bool} : wpA E q (.lookup kd z m k ok) ρ H Q = bindO (asKey kd (evR ρ k)) fun k => bindO (aLookup H kd z ok k (evR ρ m)) fun v => Q v H := by
  rw [propext wpA_lookup_iff]
  unfold bindO
  cases asKey kd (evR ρ k) <;> simp
@[simp ↓] theorem wpA_mnmx {mx : Bool} {x : Opd} {xs : List Opd} : wpA E q (.mnmx mx (x :: xs)) ρ H Q = bindO (mnmx mx (evR ρ x) (xs.map (evR ρ))) fun v => Q v H := propext wpA_mnmx_iff
@[simp ↓] theorem wpA_call {f : Opd} {args : List Opd} : wpA E 0 (.call f args) ρ H Q = bindH (callV E (evR ρ f) (args.map (evR ρ)) H) H Q := _root_.id rfl
@[simp ↓] theorem wpA_call1 {f : Opd} {args : List Opd} : wpA E 1 (.call f args) ρ H Q = bindH1 (callV E (evR ρ f) (args.map (evR ρ)) { l := H.l, d := none }) H Q := _root_.id rfl
@[simp ↓] theorem wpA_call2 {f : Opd} {args : List Opd} : wpA E 2 (.call f args) ρ H Q = bindH2 (callV E (evR ρ f) (args.map (evR ρ)) H) H Q := _root_.id rfl
@[simp ↓] theorem wpA_store {n : Nat} {a x : Opd} : wpA E 0 (.store n a x) ρ H Q = bindO (astore H n (evR ρ a) (evR ρ x)) fun H' => Q avU H' := propext wpA_store_iff
@[simp ↓] theorem wpA_box {t : TypeId} {x : Opd} : wpA E 0 (.box t x) ρ H Q = andQ ((evR ρ x).good = true) (Q (.ptr H.l.length 0) (halloc H (.cells (evR ρ x).cells t))) := propext wpA_box_iff
@[simp ↓] theorem wpA_new {t : TypeId} {z : AV} : wpA E 0 (.new t z) ρ H Q = andQ (z.good = true) (Q (.ptr H.l.length 0) (halloc H (.cells z.cells t))) := propext wpA_new_iff
@[simp ↓] theorem wpA_mkmap : wpA E 0 .mkmap ρ H Q = Q (.map H.l.length) (halloc H (.map [] 0)) := propext wpA_mkmap_iff
@[simp ↓] theorem wpA_append {e : TypeId} {sz bytes : Nat} {s x : Opd} : wpA E 0 (.append e sz bytes s x) ρ H Q = bindO (asElems H (evR ρ x)) fun ys => bindH (appendOn H e sz bytes (evR ρ s) ys) H Q := by
  rw [propext wpA_append_iff]
  unfold bindO bindH
  cases asElems H (evR ρ x) <;> simp
@[simp ↓] theorem wpA_appends {e : TypeId} {sz bytes : Nat} {s x : Opd} : wpA E 0 (.appends e sz bytes s x) ρ H Q = bindO (srcStr (evR ρ x)) fun ys => bindH (appendOn H e sz bytes (evR ρ s) ys) H Q := by
  rw [propext wpA_appends_iff]
  unfold bindO bindH
  cases srcStr (evR ρ x) <;> simp
@[simp ↓] theorem wpA_bslice {e : TypeId} {sz len : Nat} {lay : Option Nat} {z : List AV} {ps : List (Nat × Nat × Opd)} : wpA E 0 (.bslice e sz lay len z ps) ρ H Q =
    bindO (fillA (repl len z) (ps.map fun (o, s, x) => (o, s, evR ρ x))) fun cs => andQ ((chunk sz lay len cs).all (fun y => y.good && y.cells.length == sz && (lay.isSome || y.one)) = true) (Q (.ra sz H.l.length 0 len) (halloc H (.arr sz (chunk sz lay len cs) e))) := propext wpA_bslice_iff
@[simp ↓] theorem wpA_mkslice {e : TypeId} {sz bytes : Nat} {z : AV} {l c : Opd} : wpA E 0 (.mkslice e sz bytes z l c) ρ H Q =
    bindI (evR ρ l) fun n => bindI (evR ρ c) fun m => andQ (n = m) (andQ (0 ≤ n) (andQ (n.toNat * bytes ≤ roomMax) (andQ (z.good = true) (andQ (z.cells.length = sz) (Q (.ra sz H.l.length 0 n.toNat) (halloc H (.arr sz (List.replicate n.toNat z) e))))))) := by
  rw [propext wpA_mkslice_iff]
  unfold bindI andQ
  apply propext
  constructor
  · rintro ⟨k, k', n, h1, h2, h3⟩; exact ⟨k, n, h1, k', n, h2, rfl, h3⟩
  · rintro ⟨k, n, h1, k', m, h2, rfl, h3⟩; exact ⟨k, k', n, h1, h2, h3⟩
/-- An object laid by itself in a drawn region: as elsewhere. -/
theorem wpA_one_zero {ao : AOp} (h : (∀ d, aopER E ρ { l := H.l, d := d } ao = none) ∨ ∃ v ob, ∀ d, aopER E ρ { l := H.l, d := d } ao = some (v, some (halloc { l := H.l, d := d } ob))) : wpA E 1 ao ρ H Q = wpA E 0 ao ρ H Q := by
  apply propext
  have hH : aopER E ρ H ao = aopER E ρ { l := H.l, d := H.d } ao := _root_.id rfl
  rcases h with h | ⟨v, ob, h⟩
  · constructor
    · rintro ⟨u, g, e, _⟩; rw [h] at e; simp at e
    · rintro ⟨u, g, e, _⟩; rw [hH, h] at e; simp at e
  · constructor
    · rintro ⟨u, g, e, k⟩
      rw [h] at e
      simp only [Option.some.injEq, Prod.mk.injEq] at e
      obtain ⟨rfl, rfl⟩ := e
      exact ⟨v, some (halloc { l := H.l, d := H.d } ob), by rw [hH]; exact h _, k.2⟩
    · rintro ⟨u, g, e, k⟩
      rw [hH, h] at e
      simp only [Option.some.injEq, Prod.mk.injEq] at e
      obtain ⟨rfl, rfl⟩ := e
      exact ⟨v, _, h none, _root_.id rfl, k⟩
@[simp ↓] theorem wpA_new1 {t : TypeId} {z : AV} : wpA E 1 (.new t z) ρ H Q = andQ (z.good = true) (Q (.ptr H.l.length 0) (halloc H (.cells z.cells t))) := by
  rw [wpA_one_zero, wpA_new]
  by_cases hz : z.good = true
  · exact .inr ⟨.ptr H.l.length 0, .cells z.cells t, fun d => if_pos hz⟩
  · exact .inl fun d => if_neg hz
@[simp ↓] theorem wpA_mkmap1 : wpA E 1 .mkmap ρ H Q = Q (.map H.l.length) (halloc H (.map [] 0)) := by
  rw [wpA_one_zero, wpA_mkmap]
  exact .inr ⟨.map H.l.length, .map [] 0, fun d => _root_.id rfl⟩
@[simp ↓] theorem wpA_mkslice1 {e : TypeId} {sz bytes : Nat} {z : AV} {l c : Opd} : wpA E 1 (.mkslice e sz bytes z l c) ρ H Q =
    bindI (evR ρ l) fun n => bindI (evR ρ c) fun m => andQ (n = m) (andQ (0 ≤ n) (andQ (n.toNat * bytes ≤ roomMax) (andQ (z.good = true) (andQ (z.cells.length = sz) (Q (.ra sz H.l.length 0 n.toNat) (halloc H (.arr sz (List.replicate n.toNat z) e))))))) := by
  rw [wpA_one_zero, wpA_mkslice]
  have hd : ∀ d, aopER E ρ { l := H.l, d := d } (.mkslice e sz bytes z l c) = (match evR ρ l, evR ρ c with
    | .lit (.int _ n), .lit (.int _ m) =>
      if 0 ≤ n ∧ n = m ∧ m.toNat * bytes ≤ roomMax ∧ z.good = true ∧ z.cells.length = sz then
        some (AV.ra sz H.l.length 0 n.toNat, some (halloc { l := H.l, d := d } (.arr sz (List.replicate n.toNat z) e)))
      else none
    | _, _ => none) := fun d => _root_.id rfl
  simp only [hd]
  split
  · rename_i k n k' m h1 h2
    by_cases hc : 0 ≤ n ∧ n = m ∧ m.toNat * bytes ≤ roomMax ∧ z.good = true ∧ z.cells.length = sz
    · exact .inr ⟨_, _, fun d => if_pos hc⟩
    · exact .inl fun d => if_neg hc
  · exact .inl fun d => _root_.id rfl
@[simp ↓] theorem wpA_mapupd {kd : KD} {m k v : Opd} : wpA E 0 (.mapupd kd m k v) ρ H Q = bindO (asKey kd (evR ρ k)) fun key => bindO (aMapupd H kd key (evR ρ v) (evR ρ m)) fun H' => Q avU H' := by
  rw [propext wpA_mapupd_iff]
  unfold bindO
  cases asKey kd (evR ρ k) <;> simp
@[simp ↓] theorem wpA_delete {kd : KD} {m k : Opd} : wpA E 0 (.delete kd m k) ρ H Q = bindO (asKey kd (evR ρ k)) fun key => bindO (aDelete H kd key (evR ρ m)) fun h => Q avU (h.getD H) := by
  rw [propext wpA_delete_iff]
  unfold bindO
  cases asKey kd (evR ρ k) <;> simp
@[simp ↓] theorem wpA_clear {sz : Nat} {z : AV} {x : Opd} : wpA E 0 (.clear sz z x) ρ H Q = bindO (aClear H sz z (evR ρ x)) fun h => Q avU (h.getD H) := propext wpA_clear_iff
@[simp ↓] theorem wpA_bytes {e : TypeId} {x : Opd} : wpA E 0 (.conv (.bytes e) x) ρ H Q = bindS (evR ρ x) fun s => andQ ((bl s).length ≤ roomMax) (Q (.ra 1 H.l.length 0 (bl s).length) (halloc H (.arr 1 ((bl s).map avByte) e))) := propext wpA_bytes_iff
@[simp ↓] theorem wpA_mark {x : Opd} : wpA E 0 (.conv .mark x) ρ H Q = bindH (aconv H .mark (evR ρ x)) H Q := _root_.id rfl

/-! ### Numbers, texts, truths -/
section
variable {k : IntKind} {a b : Int}
@[simp] theorem abin_add : abin .add (.lit (.int k a)) (.lit (.int k b)) = some (avInt k (k.wrap (a + b))) := by simp [abin, abinI]
@[simp] theorem abin_sub : abin .sub (.lit (.int k a)) (.lit (.int k b)) = some (avInt k (k.wrap (a - b))) := by simp [abin, abinI]
@[simp] theorem abin_mul : abin .mul (.lit (.int k a)) (.lit (.int k b)) = some (avInt k (k.wrap (a * b))) := by simp [abin, abinI]
@[simp] theorem abin_lss : abin .lss (.lit (.int k a)) (.lit (.int k b)) = some (avBool (decide (a < b))) := by simp [abin, abinI]
@[simp] theorem abin_leq : abin .leq (.lit (.int k a)) (.lit (.int k b)) = some (avBool (decide (a ≤ b))) := by simp [abin, abinI]
@[simp] theorem abin_gtr : abin .gtr (.lit (.int k a)) (.lit (.int k b)) = some (avBool (decide (b < a))) := by simp [abin, abinI]
@[simp] theorem abin_geq : abin .geq (.lit (.int k a)) (.lit (.int k b)) = some (avBool (decide (b ≤ a))) := by simp [abin, abinI]
@[simp] theorem abin_quo (h : b ≠ 0) : abin .quo (.lit (.int k a)) (.lit (.int k b)) = some (avInt k (k.wrap (a.tdiv b))) := by simp [abin, abinI, h]
@[simp] theorem abin_rem (h : b ≠ 0) : abin .rem (.lit (.int k a)) (.lit (.int k b)) = some (avInt k (a.tmod b)) := by simp [abin, abinI, h]
/-- Operations on bits, by name. -/
def bAnd (k : IntKind) (a b : Int) : Int := k.wrap (BitVec.ofInt k.bits a &&& BitVec.ofInt k.bits b).toNat
def bOr (k : IntKind) (a b : Int) : Int := k.wrap (BitVec.ofInt k.bits a ||| BitVec.ofInt k.bits b).toNat
def bXor (k : IntKind) (a b : Int) : Int := k.wrap (BitVec.ofInt k.bits a ^^^ BitVec.ofInt k.bits b).toNat
def bShl (k : IntKind) (a n : Int) : Int := k.wrap (a * 2 ^ (min n.toNat k.bits))
def bShr (k : IntKind) (a n : Int) : Int := a.fdiv (2 ^ (min n.toNat k.bits))
@[simp] theorem abin_shl {k' : IntKind} (h : 0 ≤ b) : abin .shl (.lit (.int k a)) (.lit (.int k' b)) = some (avInt k (bShl k a b)) := by
  have : ¬ b < 0 := by omega
  simp [abin, ashift, this, bShl]
@[simp] theorem abin_shr {k' : IntKind} (h : 0 ≤ b) : abin .shr (.lit (.int k a)) (.lit (.int k' b)) = some (avInt k (bShr k a b)) := by
  have : ¬ b < 0 := by omega
  simp [abin, ashift, this, bShr]
@[simp] theorem abin_and : abin .and (.lit (.int k a)) (.lit (.int k b)) = some (avInt k (bAnd k a b)) := by simp [abin, abinI, ibits, bAnd]
@[simp] theorem abin_or : abin .or (.lit (.int k a)) (.lit (.int k b)) = some (avInt k (bOr k a b)) := by simp [abin, abinI, ibits, bOr]
@[simp] theorem abin_xor : abin .xor (.lit (.int k a)) (.lit (.int k b)) = some (avInt k (bXor k a b)) := by simp [abin, abinI, ibits, bXor]
@[simp] theorem aun_not {t : Bool} : aun .not (avBool t) = some (avBool (!t)) := _root_.id rfl
@[simp] theorem aun_neg : aun .neg (.lit (.int k a)) = some (avInt k (k.wrap (0 - a))) := _root_.id rfl
@[simp] theorem aeq_int : aeq .pint (.lit (.int k a)) (.lit (.int k b)) = some (decide (a = b)) := by simp only [aeq, aprim, eqI, if_true, Option.some.injEq]; rfl
@[simp] theorem aeq_bool {s t : Bool} : aeq .pbool (avBool s) (avBool t) = some (decide (s = t)) := by simp only [aeq, aprim, eqB, Option.some.injEq]; cases s <;> cases t <;> rfl
@[simp] theorem aeq_str {s t : ByteArray} : aeq .pstr (.lit (.string s)) (.lit (.string t)) = some (decide (bl s = bl t)) := by simp only [aeq, aprim, eqSt, Option.some.injEq]; rw [Bool.eq_iff_iff]; simp
theorem abin_strAdd {s t : ByteArray} (h : (bl s).length + (bl t).length < 4611686018427387904) : abin .add (.lit (.string s)) (.lit (.string t)) = some (avStr (bl s ++ bl t)) := by simp [abin, abinS, h]
@[simp] theorem abin_strLss {s t : ByteArray} : abin .lss (.lit (.string s)) (.lit (.string t)) = some (avBool (Op.bytesLess (bl s) (bl t))) := by simp [abin, abinS]
@[simp] theorem abin_strLeq {s t : ByteArray} : abin .leq (.lit (.string s)) (.lit (.string t)) = some (avBool (Op.bytesLess (bl s) (bl t) || bl s == bl t)) := by simp [abin, abinS]
@[simp] theorem abin_strGeq {s t : ByteArray} : abin .geq (.lit (.string s)) (.lit (.string t)) = some (avBool (!Op.bytesLess (bl s) (bl t))) := by simp [abin, abinS]
theorem wrap64 (h1 : -9223372036854775808 ≤ a) (h2 : a ≤ 9223372036854775807) : IntKind.wrap .i64 a = a := by
  simp only [IntKind.wrap, IntKind.bits, IntKind.signed]
  simp
  omega
end
end
end Go.Proofs.Eng
