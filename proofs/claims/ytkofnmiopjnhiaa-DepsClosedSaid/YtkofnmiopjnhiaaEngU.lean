/- The engine, part U: the executor. -/
import Derived.Test.YtkofnmiopjnhiaaEngT
set_option linter.unusedVariables false
set_option linter.unusedSimpArgs false
namespace Go.Proofs.Eng
open Go Go.RowKit

def execC (E : Env) (rd : Option Nat) : AC → List AV → Hp → Option (AX × List AV × Hp)
  | .skip, τ, H => some (.nrm, τ, H)
  | .seq a b, τ, H =>
    match execC E rd a τ H with
    | some (.nrm, τ', H') => execC E rd b τ' H'
    | r => r
  | .ops l, τ, H => (execOps E l τ H).map fun p => (.nrm, p.1, p.2)
  | .dops _ l q df, τ, H => if difOK τ df then (execQ E [] (l.zip q) τ H).map fun p => (.nrm, p.1, p.2) else none
  | .cond c a b, τ, H =>
    match aeval τ c with
    | .lit (.bool true) => execC E rd a τ H
    | .lit (.bool false) => execC E rd b τ H
    | _ => none
  | .block id b, τ, H =>
    match execC E rd b τ H with
    | some (.exit i, τ', H') => if i = id then some (.nrm, τ', H') else some (.exit i, τ', H')
    | r => r
  | .loop b, τ, H => E.loop rd b τ H
  | .exit id, τ, H => some (.exit id, τ, H)
  | .ret, τ, H => some (.ret, τ, H)
  | .rangeFn f ps asg body, τ, H => E.range rd (aeval τ f) ps asg body τ H

def resOne (τ : List AV) (H : Hp) : Sum Nat (Nat × Option Nat) → Option AV
  | .inl t => some (τ.getD t avU)
  | .inr (t, lay) => aload H lay (τ.getD t avU)

def resA (rs : List (Sum Nat (Nat × Option Nat))) (τ : List AV) (H : Hp) : Option AV :=
  match rs.mapM (resOne τ H) with
  | some [v] => some v
  | some vs => some (.tup vs)
  | none => none

/-- A function's body, run on its arguments. -/
def runF (ex : AC → List AV → Hp → Option (AX × List AV × Hp)) (fn : AFunc) (args : List AV) (H : Hp) : Option (AV × Option Hp) :=
  match ex fn.body (args ++ List.replicate (fn.ntmps - args.length) avU) { l := H.l, d := none } with
  | some (.nrm, τ, H') => (resA fn.results τ H').map fun v => settleZ fn.frz H v H'
  | some (.ret, τ, H') => (resA fn.results τ H').map fun v => settleZ fn.frz H v H'
  | _ => none

def putAll : List Nat → List AV → List AV → List AV
  | p :: ps, x :: xs, τ => putAll ps xs (τ.set p x)
  | _, _, τ => τ

def runY (ex : AC → List AV → Hp → Option (AX × List AV × Hp)) (l : Nat) (args : List AV) (H : Hp) : Option (AV × Option Hp) :=
  match hget H l with
  | some (.loop .ready _ τ ps asg body) =>
    if args.length = ps.length then
      match ex asg (putAll ps args τ) H with
      | some (.nrm, τ1, H1) =>
        match hget H1 l with
        | some (.loop .ready pe' τ' ps' asg' body') =>
          match ex body τ1 (hset H1 l (some (.loop .busy pe' τ' ps' asg' body'))) with
          | some (x, _, H2) =>
            match hget H2 l with
            | some (.loop _ _ τ'' ps'' asg'' body'') =>
              some (avBool (x == .nrm), some (hset H2 l (some (.loop (if x = .nrm then .ready else .done) x τ'' ps'' asg'' body''))))
            | _ => none
          | none => none
        | _ => none
      | _ => none
    else none
  | _ => none

def rdAlive (H : Hp) : Option Nat → Bool
  | none => true
  | some l => match hget H l with | some (.loop ..) => true | _ => false

def runR (ent : FuncId → List AV → Hp → Option (AV × Option Hp)) (rd : Option Nat) (f : AV) (ps : List Nat) (asg body : AC) (τ : List AV) (H : Hp) : Option (AX × List AV × Hp) :=
  if rdAlive H rd then
    match f with
    | .fn g fs cs =>
      let H1 := halloc H (.loop .ready .nrm τ ps asg body)
      match ent g (fs ++ [.yld H.l.length] ++ cs) H1 with
      | some (_, h) =>
        let H2 := h.getD H1
        match hget H2 H.l.length with
        | some (.loop st pe _ _ _ _) => if st = .busy then none else some (pe, τ, hset H2 H.l.length none)
        | _ => none
      | none => none
    | _ => none
  else none

abbrev Sums := FuncId → List AV → Hp → Option (AV × Option Hp)
abbrev Tab := FuncId → Option AFunc

/-- The environment with so much fuel. Γ: summaries; A: functions, resolved. -/
def env (Γ : Sums) (A : Tab) : Nat → Env
  | 0 => ⟨fun _ _ _ => none, fun _ _ _ => none, fun _ _ _ _ => none, fun _ _ _ _ _ _ _ => none, fun _ _ _ => none⟩
  | n + 1 =>
    { call := fun f args H =>
        match Γ f args H with
        | some r => some r
        | none => match A f with
          | some fn => runF (execC (env Γ A n) none) fn args H
          | none => none
      yld := fun l args H => runY (execC (env Γ A n) (some l)) l args H
      loop := fun rd b τ H =>
        match execC (env Γ A n) rd b τ H with
        | some (.nrm, τ', H') => (env Γ A n).loop rd b τ' H'
        | r => r
      range := fun rd f ps asg body τ H => runR (env Γ A n).ent rd f ps asg body τ H
      ent := fun f args H =>
        match A f with
        | some fn => runF (execC (env Γ A n) none) fn args H
        | none => none }

/-! ### The heap grows -/
structure ELe (E : Env) : Prop extends CLe E where
  ent : ∀ {f : FuncId} {args : List AV} {H : Hp} {v : AV} {h : Option Hp}, E.ent f args H = some (v, h) → Le? H h
  loop : ∀ {rd : Option Nat} {b : AC} {τ τ' : List AV} {H H' : Hp} {x : AX}, E.loop rd b τ H = some (x, τ', H') → HLe H H'
  range : ∀ {rd : Option Nat} {f : AV} {ps : List Nat} {asg b : AC} {τ τ' : List AV} {H H' : Hp} {x : AX}, E.range rd f ps asg b τ H = some (x, τ', H') → HLe H H'

theorem execOps_le {E : Env} (hE : ELe E) : ∀ {l : List AOper} {τ τ' : List AV} {H H' : Hp}, execOps E l τ H = some (τ', H') → HLe H H'
  | [], τ, τ', H, H', e => by simp only [execOps, Option.some.injEq, Prod.mk.injEq] at e; obtain ⟨_, rfl⟩ := e; exact HLe.refl _
  | o :: l, τ, τ', H, H', e => by
    simp only [execOps] at e
    split at e
    · rename_i v h ha
      exact (actO_le hE.toCLe ha : HLe H _).trans (execOps_le hE e)
    · simp at e

theorem execQ_le {E : Env} (hE : ELe E) : ∀ {l : List (AOper × Nat)} {R : List Nat} {τ τ' : List AV} {H H' : Hp}, execQ E R l τ H = some (τ', H') → HLe H H'
  | [], R, τ, τ', H, H', e => by simp only [execQ, Option.some.injEq, Prod.mk.injEq] at e; obtain ⟨_, rfl⟩ := e; exact HLe.refl _
  | o :: l, R, τ, τ', H, H', e => by
    simp only [execQ] at e
    split at e
    · split at e
      · rename_i v h ha
        exact (actQ_le hE.toCLe ha : HLe H _).trans (execQ_le hE e)
      · simp at e
    · simp at e

theorem execC_le {E : Env} (hE : ELe E) {rd : Option Nat} : ∀ (c : AC) {τ τ' : List AV} {H H' : Hp} {x : AX}, execC E rd c τ H = some (x, τ', H') → HLe H H'
  | .skip, τ, τ', H, H', x, e => by simp only [execC, Option.some.injEq, Prod.mk.injEq] at e; obtain ⟨_, _, rfl⟩ := e; exact HLe.refl _
  | .exit id, τ, τ', H, H', x, e => by simp only [execC, Option.some.injEq, Prod.mk.injEq] at e; obtain ⟨_, _, rfl⟩ := e; exact HLe.refl _
  | .ret, τ, τ', H, H', x, e => by simp only [execC, Option.some.injEq, Prod.mk.injEq] at e; obtain ⟨_, _, rfl⟩ := e; exact HLe.refl _
  | .seq a b, τ, τ', H, H', x, e => by
    simp only [execC] at e
    split at e
    · rename_i t h ha
      exact (execC_le hE a ha).trans (execC_le hE b e)
    · exact execC_le hE a e
  | .ops l, τ, τ', H, H', x, e => by
    simp only [execC] at e
    obtain ⟨p, hp, e⟩ := Option.map_eq_some_iff.1 e
    simp only [Prod.mk.injEq] at e; obtain ⟨_, _, rfl⟩ := e
    exact execOps_le hE hp
  | .dops id l q df, τ, τ', H, H', x, e => by
    simp only [execC] at e
    split at e
    · obtain ⟨p, hp, e⟩ := Option.map_eq_some_iff.1 e
      simp only [Prod.mk.injEq] at e; obtain ⟨_, _, rfl⟩ := e
      exact execQ_le hE hp
    · simp at e
  | .cond c a b, τ, τ', H, H', x, e => by
    simp only [execC] at e
    split at e
    · exact execC_le hE a e
    · exact execC_le hE b e
    · simp at e
  | .block id b, τ, τ', H, H', x, e => by
    simp only [execC] at e
    split at e
    · rename_i i t h ha
      split at e
      · simp only [Option.some.injEq, Prod.mk.injEq] at e; obtain ⟨_, _, rfl⟩ := e; exact execC_le hE b ha
      · simp only [Option.some.injEq, Prod.mk.injEq] at e; obtain ⟨_, _, rfl⟩ := e; exact execC_le hE b ha
    · exact execC_le hE b e
  | .loop b, τ, τ', H, H', x, e => hE.loop e
  | .rangeFn f ps asg body, τ, τ', H, H', x, e => hE.range e

theorem runF_le {ex : AC → List AV → Hp → Option (AX × List AV × Hp)} (hx : ∀ {c : AC} {τ τ' : List AV} {H H' : Hp} {x : AX}, ex c τ H = some (x, τ', H') → HLe H H') {fn : AFunc} {args : List AV} {H : Hp} {v : AV} {h : Option Hp}
    (e : runF ex fn args H = some (v, h)) : Le? H h := by
  unfold runF at e
  split at e
  · rename_i τ H' he
    obtain ⟨u, _, e⟩ := Option.map_eq_some_iff.1 e
    exact settleZ_le (H := H) (hx he) e
  · rename_i τ H' he
    obtain ⟨u, _, e⟩ := Option.map_eq_some_iff.1 e
    exact settleZ_le (H := H) (hx he) e
  · simp at e

theorem runY_le {ex : AC → List AV → Hp → Option (AX × List AV × Hp)} (hx : ∀ {c : AC} {τ τ' : List AV} {H H' : Hp} {x : AX}, ex c τ H = some (x, τ', H') → HLe H H') {l : Nat} {args : List AV} {H : Hp} {v : AV} {h : Option Hp}
    (e : runY ex l args H = some (v, h)) : Le? H h := by
  unfold runY at e
  split at e
  · split at e
    · split at e
      · rename_i h1
        split at e
        · split at e
          · rename_i h2
            split at e
            · simp only [Option.some.injEq, Prod.mk.injEq] at e; obtain ⟨_, rfl⟩ := e
              exact ((hx h1).trans (HLe.set _ _ _)).trans ((hx h2).trans (HLe.set _ _ _))
            · simp at e
          · simp at e
        · simp at e
      · simp at e
    · simp at e
  · simp at e

theorem runR_le {ent : FuncId → List AV → Hp → Option (AV × Option Hp)} (hx : ∀ {f : FuncId} {args : List AV} {H : Hp} {v : AV} {h : Option Hp}, ent f args H = some (v, h) → Le? H h) {rd : Option Nat} {f : AV} {ps : List Nat} {asg b : AC} {τ τ' : List AV} {H H' : Hp} {x : AX}
    (e : runR ent rd f ps asg b τ H = some (x, τ', H')) : HLe H H' := by
  unfold runR at e
  split at e
  · split at e
    · simp only [] at e
      split at e
      · rename_i h1
        split at e
        · split at e
          · simp at e
          · simp only [Option.some.injEq, Prod.mk.injEq] at e; obtain ⟨_, _, rfl⟩ := e
            exact (HLe.alloc _ _).trans ((hx h1 : HLe _ _).trans (HLe.set _ _ _))
        · simp at e
      · simp at e
    · simp at e
  · simp at e

theorem env_le {Γ : Sums} {A : Tab} (hΓ : ∀ (f : FuncId) (args : List AV) (H : Hp) (v : AV) (h : Option Hp), Γ f args H = some (v, h) → Le? H h) : ∀ n, ELe (env Γ A n)
  | 0 => by
    refine ⟨⟨?_, ?_⟩, ?_, ?_, ?_⟩ <;> (intros; simp only [env] at *; first | (rename_i e; simp at e; done))
  | n + 1 => by
    have ih := env_le (Γ := Γ) (A := A) hΓ n
    have hent : ∀ {f : FuncId} {args : List AV} {H : Hp} {v : AV} {h : Option Hp}, (env Γ A (n + 1)).ent f args H = some (v, h) → Le? H h := by
      intro f args H v h e
      simp only [env] at e
      split at e
      · exact runF_le (fun he => execC_le ih _ he) e
      · simp at e
    refine ⟨⟨?_, ?_⟩, hent, ?_, ?_⟩
    · intro f args H v h e
      simp only [env] at e
      split at e
      · rename_i r hr
        rw [e] at hr
        exact hΓ _ _ _ _ _ hr
      · exact hent (by simpa only [env] using e)
    · intro l args H v h e
      simp only [env] at e
      exact runY_le (fun he => execC_le ih _ he) e
    · intro rd b τ τ' H H' x e
      simp only [env] at e
      split at e
      · rename_i h1
        exact (execC_le ih _ h1).trans (ih.loop e)
      · exact execC_le ih _ e
    · intro rd f ps asg b τ τ' H H' x e
      simp only [env] at e
      exact runR_le (fun he => ih.ent he) e

end Go.Proofs.Eng
