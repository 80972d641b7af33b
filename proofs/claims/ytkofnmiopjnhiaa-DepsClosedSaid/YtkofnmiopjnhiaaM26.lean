import Derived.Test.YtkofnmiopjnhiaaEngZ
/- The engine, part AA: more fuel changes no answer; the environment without fuel, and its equations. -/
set_option linter.unusedVariables false
set_option linter.unusedSimpArgs false
namespace Go.Proofs.Eng
open Go Go.RowKit

structure EMono (E E' : Env) : Prop where
  call : ∀ {f : FuncId} {args : List AV} {H : Hp} {r}, E.call f args H = some r → E'.call f args H = some r
  yld : ∀ {l : Nat} {args : List AV} {H : Hp} {r}, E.yld l args H = some r → E'.yld l args H = some r
  loop : ∀ {rd : Option Nat} {b : AC} {τ : List AV} {H : Hp} {r}, E.loop rd b τ H = some r → E'.loop rd b τ H = some r
  range : ∀ {rd : Option Nat} {f : AV} {ps : List Nat} {asg b : AC} {τ : List AV} {H : Hp} {r}, E.range rd f ps asg b τ H = some r → E'.range rd f ps asg b τ H = some r
  ent : ∀ {f : FuncId} {args : List AV} {H : Hp} {r}, E.ent f args H = some r → E'.ent f args H = some r

theorem EMono.refl (E : Env) : EMono E E := ⟨fun h => h, fun h => h, fun h => h, fun h => h, fun h => h⟩
theorem EMono.trans {A B C : Env} (h : EMono A B) (k : EMono B C) : EMono A C :=
  ⟨fun e => k.call (h.call e), fun e => k.yld (h.yld e), fun e => k.loop (h.loop e), fun e => k.range (h.range e), fun e => k.ent (h.ent e)⟩

section
variable {E E' : Env}

theorem callV_mono (m : EMono E E') {f : AV} {args : List AV} {H : Hp} {r} (h : callV E f args H = some r) : callV E' f args H = some r := by
  unfold callV at *
  split at h
  · exact m.call h
  · exact m.yld h
  · simp at h

theorem aopE_mono (m : EMono E E') {τ : List AV} {H : Hp} {ao : AOp} {r} (h : aopE E τ H ao = some r) : aopE E' τ H ao = some r := by
  cases ao <;> first | exact callV_mono m h | exact h

theorem actO_mono (m : EMono E E') {o : AOper} {τ : List AV} {H : Hp} {r} (h : actO E o τ H = some r) : actO E' o τ H = some r := by
  unfold actO at *
  cases hw : wantA τ o.grd with
  | none => rw [hw] at h; simp at h
  | some b =>
    rw [hw] at h
    cases b with
    | false => exact h
    | true => exact aopE_mono m h

theorem actQ_mono (m : EMono E E') {q : Nat} {o : AOper} {τ : List AV} {H : Hp} {r} (h : actQ E q o τ H = some r) : actQ E' q o τ H = some r := by
  unfold actQ at *
  split at h
  · exact actO_mono m h
  · split at h
    · rename_i h1; rw [actO_mono m h1]; exact h
    · rename_i h1; rw [actO_mono m h1]; exact h
    · simp at h
  · exact actO_mono m h
  · split at h
    · rename_i h1; rw [actO_mono m h1]; exact h
    · simp at h
    · simp at h

theorem execOps_mono (m : EMono E E') : ∀ {l : List AOper} {τ : List AV} {H : Hp} {r}, execOps E l τ H = some r → execOps E' l τ H = some r
  | [], τ, H, r, h => h
  | o :: l, τ, H, r, h => by
    simp only [execOps] at h ⊢
    split at h
    · rename_i h1; rw [actO_mono m h1]; exact execOps_mono m h
    · simp at h

theorem execQ_mono (m : EMono E E') : ∀ {l : List (AOper × Nat)} {R : List Nat} {τ : List AV} {H : Hp} {r}, execQ E R l τ H = some r → execQ E' R l τ H = some r
  | [], R, τ, H, r, h => h
  | o :: l, R, τ, H, r, h => by
    simp only [execQ] at h ⊢
    split at h
    · rename_i hk
      rw [if_pos hk]
      split at h
      · rename_i h1; rw [actQ_mono m h1]; exact execQ_mono m h
      · simp at h
    · simp at h

theorem execC_mono (m : EMono E E') {rd : Option Nat} : ∀ (c : AC) {τ : List AV} {H : Hp} {r}, execC E rd c τ H = some r → execC E' rd c τ H = some r
  | .skip, τ, H, r, h => h
  | .exit id, τ, H, r, h => h
  | .ret, τ, H, r, h => h
  | .seq a b, τ, H, r, h => by
    simp only [execC] at h ⊢
    cases ha : execC E rd a τ H with
    | none => rw [ha] at h; simp at h
    | some p =>
      rw [ha] at h
      rw [execC_mono m a ha]
      obtain ⟨x, τ', H'⟩ := p
      cases x with
      | nrm => exact execC_mono m b h
      | ret => exact h
      | exit i => exact h
  | .ops l, τ, H, r, h => by
    simp only [execC] at h ⊢
    obtain ⟨p, hp, e⟩ := Option.map_eq_some_iff.1 h
    rw [execOps_mono m hp, Option.map_some, e]
  | .dops _ l q df, τ, H, r, h => by
    simp only [execC] at h ⊢
    split at h
    · rename_i hd
      obtain ⟨p, hp, e⟩ := Option.map_eq_some_iff.1 h
      rw [if_pos hd, execQ_mono m hp, Option.map_some, e]
    · simp at h
  | .cond c a b, τ, H, r, h => by
    simp only [execC] at h ⊢
    split at h
    · rename_i hc; exact execC_mono m a h
    · rename_i hc; exact execC_mono m b h
    · simp at h
  | .block id b, τ, H, r, h => by
    simp only [execC] at h ⊢
    cases hb : execC E rd b τ H with
    | none => rw [hb] at h; simp at h
    | some p => rw [hb] at h; rw [execC_mono m b hb]; exact h
  | .loop b, τ, H, r, h => m.loop h
  | .rangeFn f ps asg body, τ, H, r, h => m.range h

theorem runF_mono {ex ex' : AC → List AV → Hp → Option (AX × List AV × Hp)} (hx : ∀ {c : AC} {τ : List AV} {H : Hp} {r}, ex c τ H = some r → ex' c τ H = some r) {fn : AFunc} {args : List AV} {H : Hp} {r} (h : runF ex fn args H = some r) : runF ex' fn args H = some r := by
  unfold runF at *
  cases hb : ex fn.body (args ++ List.replicate (fn.ntmps - args.length) avU) { l := H.l, d := none } with
  | none => rw [hb] at h; simp at h
  | some p => rw [hb] at h; rw [hx hb]; exact h

theorem runY_mono {ex ex' : AC → List AV → Hp → Option (AX × List AV × Hp)} (hx : ∀ {c : AC} {τ : List AV} {H : Hp} {r}, ex c τ H = some r → ex' c τ H = some r) {l : Nat} {args : List AV} {H : Hp} {r} (h : runY ex l args H = some r) : runY ex' l args H = some r := by
  unfold runY at *
  split at h
  · split at h
    · rename_i hl
      rw [if_pos hl]
      split at h
      · rename_i h1
        rw [hx h1]
        split at h
        · rename_i h2
          simp only [h2]
          split at h
          · rename_i h3
            simp only [hx h3]
            exact h
          · simp at h
        · simp at h
      · simp at h
    · simp at h
  · simp at h

theorem runR_mono {ent ent' : FuncId → List AV → Hp → Option (AV × Option Hp)} (hx : ∀ {f : FuncId} {args : List AV} {H : Hp} {r}, ent f args H = some r → ent' f args H = some r) {rd : Option Nat} {f : AV} {ps : List Nat} {asg b : AC} {τ : List AV} {H : Hp} {r}
    (h : runR ent rd f ps asg b τ H = some r) : runR ent' rd f ps asg b τ H = some r := by
  unfold runR at *
  split at h
  · rename_i hl
    rw [if_pos hl]
    split at h
    · simp only [] at h ⊢
      split at h
      · rename_i h1
        rw [hx h1]
        exact h
      · simp at h
    · simp at h
  · simp at h
end

theorem env_mono {Γ : Sums} {A : Tab} : ∀ n, EMono (env Γ A n) (env Γ A (n + 1))
  | 0 => by constructor <;> intros <;> simp [env] at *
  | n + 1 => by
    have ih := env_mono (Γ := Γ) (A := A) n
    have hent : ∀ {f : FuncId} {args : List AV} {H : Hp} {r}, (env Γ A (n + 1)).ent f args H = some r → (env Γ A (n + 2)).ent f args H = some r := by
      intro f args H r h
      simp only [env] at h
      show (match A f with | some fn => runF (execC (env Γ A (n + 1)) none) fn args H | none => none) = some r
      split at h
      · rename_i fn hA
        simp only [hA]
        exact runF_mono (fun {c τ H r} h => execC_mono ih c h) h
      · simp at h
    refine ⟨?_, ?_, ?_, ?_, hent⟩
    · intro f args H r h
      simp only [env] at h
      show (match Γ f args H with | some r => some r | none => match A f with | some fn => runF (execC (env Γ A (n + 1)) none) fn args H | none => none) = some r
      split at h
      · rename_i hΓ
        simp only [hΓ]
        exact h
      · rename_i hΓ
        simp only [hΓ]
        split at h
        · rename_i fn hA
          simp only [hA]
          exact runF_mono (fun {c τ H r} h => execC_mono ih c h) h
        · simp at h
    · intro l args H r h
      simp only [env] at h
      show runY (execC (env Γ A (n + 1)) (some l)) l args H = some r
      exact runY_mono (fun {c τ H r} h => execC_mono ih c h) h
    · intro rd b τ H r h
      simp only [env] at h
      show (match execC (env Γ A (n + 1)) rd b τ H with | some (.nrm, τ', H') => (env Γ A (n + 1)).loop rd b τ' H' | r => r) = some r
      cases hb : execC (env Γ A n) rd b τ H with
      | none => rw [hb] at h; simp at h
      | some p =>
        rw [hb] at h
        rw [execC_mono ih _ hb]
        obtain ⟨x, τ', H'⟩ := p
        cases x with
        | nrm => exact ih.loop h
        | ret => exact h
        | exit i => exact h
    · intro rd f ps asg b τ H r h
      simp only [env] at h
      show runR (env Γ A (n + 1)).ent rd f ps asg b τ H = some r
      exact runR_mono (fun {f args H r} h => ih.ent h) h

theorem env_le_of {Γ : Sums} {A : Tab} {n m : Nat} (h : n ≤ m) : EMono (env Γ A n) (env Γ A m) := by
  induction h with
  | refl => exact EMono.refl _
  | step _ ih => exact ih.trans (env_mono _)

open Classical in
noncomputable def limO {α : Type} (s : Nat → Option α) : Option α := if h : ∃ n r, s n = some r then s h.choose else none

theorem limO_some {α : Type} {s : Nat → Option α} (hm : ∀ n m r, n ≤ m → s n = some r → s m = some r) {r : α} : limO s = some r ↔ ∃ n, s n = some r := by
  unfold limO
  constructor
  · intro h
    split at h
    · exact ⟨_, h⟩
    · simp at h
  · rintro ⟨n, hn⟩
    have hx : ∃ n r, s n = some r := ⟨n, r, hn⟩
    rw [dif_pos hx]
    obtain ⟨r', hr'⟩ := hx.choose_spec
    rcases Nat.le_total hx.choose n with h | h
    · have := hm _ _ _ h hr'
      rw [hn] at this
      injection this with this
      subst this; exact hr'
    · exact hm _ _ _ h hn

/-- The environment without fuel. -/
noncomputable def lim (Γ : Sums) (A : Tab) : Env where
  call f args H := limO fun n => (env Γ A n).call f args H
  yld l args H := limO fun n => (env Γ A n).yld l args H
  loop rd b τ H := limO fun n => (env Γ A n).loop rd b τ H
  range rd f ps asg b τ H := limO fun n => (env Γ A n).range rd f ps asg b τ H
  ent f args H := limO fun n => (env Γ A n).ent f args H

section
variable {Γ : Sums} {A : Tab}

theorem lim_call {f : FuncId} {args : List AV} {H : Hp} {r} : (lim Γ A).call f args H = some r ↔ ∃ n, (env Γ A n).call f args H = some r := limO_some fun _ _ _ h e => (env_le_of h).call e
theorem lim_yld {l : Nat} {args : List AV} {H : Hp} {r} : (lim Γ A).yld l args H = some r ↔ ∃ n, (env Γ A n).yld l args H = some r := limO_some fun _ _ _ h e => (env_le_of h).yld e
theorem lim_loop {rd : Option Nat} {b : AC} {τ : List AV} {H : Hp} {r} : (lim Γ A).loop rd b τ H = some r ↔ ∃ n, (env Γ A n).loop rd b τ H = some r := limO_some fun _ _ _ h e => (env_le_of h).loop e
theorem lim_range {rd : Option Nat} {f : AV} {ps : List Nat} {asg b : AC} {τ : List AV} {H : Hp} {r} : (lim Γ A).range rd f ps asg b τ H = some r ↔ ∃ n, (env Γ A n).range rd f ps asg b τ H = some r := limO_some fun _ _ _ h e => (env_le_of h).range e
theorem lim_ent {f : FuncId} {args : List AV} {H : Hp} {r} : (lim Γ A).ent f args H = some r ↔ ∃ n, (env Γ A n).ent f args H = some r := limO_some fun _ _ _ h e => (env_le_of h).ent e

theorem env_lim (n : Nat) : EMono (env Γ A n) (lim Γ A) := ⟨fun h => lim_call.2 ⟨n, h⟩, fun h => lim_yld.2 ⟨n, h⟩, fun h => lim_loop.2 ⟨n, h⟩, fun h => lim_range.2 ⟨n, h⟩, fun h => lim_ent.2 ⟨n, h⟩⟩

theorem callV_cont {f : AV} {args : List AV} {H : Hp} {r} (h : callV (lim Γ A) f args H = some r) : ∃ n, callV (env Γ A n) f args H = some r := by
  unfold callV at *
  split at h
  · exact lim_call.1 h
  · exact lim_yld.1 h
  · simp at h

theorem aopE_cont {τ : List AV} {H : Hp} {ao : AOp} {r} (h : aopE (lim Γ A) τ H ao = some r) : ∃ n, aopE (env Γ A n) τ H ao = some r := by
  cases ao <;> first | exact callV_cont h | exact ⟨0, h⟩

theorem actO_cont {o : AOper} {τ : List AV} {H : Hp} {r} (h : actO (lim Γ A) o τ H = some r) : ∃ n, actO (env Γ A n) o τ H = some r := by
  unfold actO at *
  cases hw : wantA τ o.grd with
  | none => rw [hw] at h; simp at h
  | some b =>
    rw [hw] at h
    cases b with
    | false => exact ⟨0, h⟩
    | true => exact aopE_cont h

theorem actQ_cont {q : Nat} {o : AOper} {τ : List AV} {H : Hp} {r} (h : actQ (lim Γ A) q o τ H = some r) : ∃ n, actQ (env Γ A n) q o τ H = some r := by
  unfold actQ at *
  split at h
  · exact actO_cont h
  · split at h
    · rename_i h1; obtain ⟨n, h2⟩ := actO_cont h1; refine ⟨n, ?_⟩; rw [h2]; exact h
    · rename_i h1; obtain ⟨n, h2⟩ := actO_cont h1; refine ⟨n, ?_⟩; rw [h2]; exact h
    · simp at h
  · exact actO_cont h
  · split at h
    · rename_i h1; obtain ⟨n, h2⟩ := actO_cont h1; refine ⟨n, ?_⟩; rw [h2]; exact h
    · simp at h
    · simp at h

theorem execOps_cont : ∀ {l : List AOper} {τ : List AV} {H : Hp} {r}, execOps (lim Γ A) l τ H = some r → ∃ n, execOps (env Γ A n) l τ H = some r
  | [], τ, H, r, h => ⟨0, h⟩
  | o :: l, τ, H, r, h => by
    simp only [execOps] at h ⊢
    split at h
    · rename_i h1
      obtain ⟨n, h2⟩ := actO_cont h1
      obtain ⟨m, h3⟩ := execOps_cont h
      refine ⟨max n m, ?_⟩
      rw [actO_mono (env_le_of (Nat.le_max_left n m)) h2]
      exact execOps_mono (env_le_of (Nat.le_max_right n m)) h3
    · simp at h

theorem execQ_cont : ∀ {l : List (AOper × Nat)} {R : List Nat} {τ : List AV} {H : Hp} {r}, execQ (lim Γ A) R l τ H = some r → ∃ n, execQ (env Γ A n) R l τ H = some r
  | [], R, τ, H, r, h => ⟨0, h⟩
  | o :: l, R, τ, H, r, h => by
    simp only [execQ] at h ⊢
    split at h
    · rename_i hk
      split at h
      · rename_i h1
        obtain ⟨n, h2⟩ := actQ_cont h1
        obtain ⟨m, h3⟩ := execQ_cont h
        refine ⟨max n m, ?_⟩
        rw [if_pos hk, actQ_mono (env_le_of (Nat.le_max_left n m)) h2]
        exact execQ_mono (env_le_of (Nat.le_max_right n m)) h3
      · simp at h
    · simp at h

theorem execC_cont {rd : Option Nat} : ∀ (c : AC) {τ : List AV} {H : Hp} {r}, execC (lim Γ A) rd c τ H = some r → ∃ n, execC (env Γ A n) rd c τ H = some r
  | .skip, τ, H, r, h => ⟨0, h⟩
  | .exit id, τ, H, r, h => ⟨0, h⟩
  | .ret, τ, H, r, h => ⟨0, h⟩
  | .seq a b, τ, H, r, h => by
    simp only [execC] at h ⊢
    cases ha : execC (lim Γ A) rd a τ H with
    | none => rw [ha] at h; simp at h
    | some p =>
      rw [ha] at h
      obtain ⟨n, hn⟩ := execC_cont a ha
      obtain ⟨x, τ', H'⟩ := p
      cases x with
      | nrm =>
        obtain ⟨m, hm⟩ := execC_cont b h
        refine ⟨max n m, ?_⟩
        rw [execC_mono (env_le_of (Nat.le_max_left n m)) a hn]
        exact execC_mono (env_le_of (Nat.le_max_right n m)) b hm
      | ret => exact ⟨n, by rw [hn]; exact h⟩
      | exit i => exact ⟨n, by rw [hn]; exact h⟩
  | .ops l, τ, H, r, h => by
    simp only [execC] at h ⊢
    obtain ⟨p, hp, e⟩ := Option.map_eq_some_iff.1 h
    obtain ⟨n, hn⟩ := execOps_cont hp
    exact ⟨n, by rw [hn, Option.map_some, e]⟩
  | .dops _ l q df, τ, H, r, h => by
    simp only [execC] at h ⊢
    split at h
    · rename_i hd
      obtain ⟨p, hp, e⟩ := Option.map_eq_some_iff.1 h
      obtain ⟨n, hn⟩ := execQ_cont hp
      exact ⟨n, by rw [if_pos hd, hn, Option.map_some, e]⟩
    · simp at h
  | .cond c a b, τ, H, r, h => by
    simp only [execC] at h ⊢
    split at h
    · exact execC_cont a h
    · exact execC_cont b h
    · simp at h
  | .block id b, τ, H, r, h => by
    simp only [execC] at h ⊢
    cases hb : execC (lim Γ A) rd b τ H with
    | none => rw [hb] at h; simp at h
    | some p =>
      rw [hb] at h
      obtain ⟨n, hn⟩ := execC_cont b hb
      exact ⟨n, by rw [hn]; exact h⟩
  | .loop b, τ, H, r, h => lim_loop.1 h
  | .rangeFn f ps asg body, τ, H, r, h => lim_range.1 h

theorem runF_cont {fn : AFunc} {args : List AV} {H : Hp} {r} (h : runF (execC (lim Γ A) none) fn args H = some r) : ∃ n, runF (execC (env Γ A n) none) fn args H = some r := by
  unfold runF at *
  cases hb : execC (lim Γ A) none fn.body (args ++ List.replicate (fn.ntmps - args.length) avU) { l := H.l, d := none } with
  | none => rw [hb] at h; simp at h
  | some p =>
    rw [hb] at h
    obtain ⟨n, hn⟩ := execC_cont _ hb
    exact ⟨n, by rw [hn]; exact h⟩

theorem opt_ext {α : Type} {a b : Option α} (h1 : ∀ r, a = some r → b = some r) (h2 : ∀ r, b = some r → a = some r) : a = b := by
  cases a with
  | none => cases b with
    | none => rfl
    | some r => exact h2 r rfl
  | some r => exact (h1 r rfl).symm

theorem lim_call_eq {f : FuncId} {args : List AV} {H : Hp} : (lim Γ A).call f args H = (match Γ f args H with | some r => some r | none => match A f with | some fn => runF (execC (lim Γ A) none) fn args H | none => none) := by
  apply opt_ext
  · intro r h
    obtain ⟨n, hn⟩ := lim_call.1 h
    cases n with
    | zero => simp [env] at hn
    | succ n =>
      simp only [env] at hn
      split at hn
      · rename_i hΓ
        simp only [hΓ]
        exact hn
      · rename_i hΓ
        simp only [hΓ]
        split at hn
        · rename_i fn hA
          simp only [hA]
          exact runF_mono (fun {c τ H r} h => execC_mono (env_lim n) c h) hn
        · simp at hn
  · intro r h
    refine lim_call.2 ?_
    split at h
    · rename_i hΓ
      exact ⟨1, by simp only [env, hΓ]; exact h⟩
    · rename_i hΓ
      split at h
      · rename_i fn hA
        obtain ⟨n, hn⟩ := runF_cont h
        exact ⟨n + 1, by simp only [env, hΓ, hA]; exact hn⟩
      · simp at h

theorem lim_loop_eq {rd : Option Nat} {b : AC} {τ : List AV} {H : Hp} : (lim Γ A).loop rd b τ H = (match execC (lim Γ A) rd b τ H with | some (.nrm, τ', H') => (lim Γ A).loop rd b τ' H' | r => r) := by
  apply opt_ext
  · intro r h
    obtain ⟨n, hn⟩ := lim_loop.1 h
    cases n with
    | zero => simp [env] at hn
    | succ n =>
      simp only [env] at hn
      cases hb : execC (env Γ A n) rd b τ H with
      | none => rw [hb] at hn; simp at hn
      | some p =>
        rw [hb] at hn
        rw [execC_mono (env_lim n) _ hb]
        obtain ⟨x, τ', H'⟩ := p
        cases x with
        | nrm => exact lim_loop.2 ⟨n, hn⟩
        | ret => exact hn
        | exit i => exact hn
  · intro r h
    refine lim_loop.2 ?_
    cases hb : execC (lim Γ A) rd b τ H with
    | none => rw [hb] at h; simp at h
    | some p =>
      rw [hb] at h
      obtain ⟨n, hn⟩ := execC_cont _ hb
      obtain ⟨x, τ', H'⟩ := p
      cases x with
      | nrm =>
        obtain ⟨m, hm⟩ := lim_loop.1 h
        refine ⟨max n m + 1, ?_⟩
        simp only [env]
        rw [execC_mono (env_le_of (Nat.le_max_left n m)) _ hn]
        exact (env_le_of (Nat.le_max_right n m)).loop hm
      | ret => exact ⟨n + 1, by simp only [env]; rw [hn]; exact h⟩
      | exit i => exact ⟨n + 1, by simp only [env]; rw [hn]; exact h⟩

/-- What fuel answers, the limit answers. -/
theorem lim_of_env {n : Nat} {f : FuncId} {args : List AV} {H : Hp} {r} (h : (env Γ A n).call f args H = some r) : (lim Γ A).call f args H = some r := lim_call.2 ⟨n, h⟩
end
end Go.Proofs.Eng
/- The engine, part AB: the weakest precondition of resolved code, temporaries as a function. -/
set_option linter.unusedVariables false
set_option linter.unusedSimpArgs false
namespace Go.Proofs.Eng
open Go Go.RowKit

/-- Temporaries as a function. -/
abbrev Rho := Nat → AV
def rho (τ : List AV) : Rho := fun i => τ.getD i avU
def upd (ρ : Rho) (n : Nat) (v : AV) : Rho := fun m => if m = n then v else ρ m
@[simp] theorem upd_same (ρ : Rho) (n : Nat) (v : AV) : upd ρ n v n = v := by simp [upd]
theorem upd_at (ρ : Rho) (n : Nat) (v : AV) (m : Nat) : upd ρ n v m = if m = n then v else ρ m := _root_.id rfl
def updO (ρ : Rho) (d : Option Nat) (v : AV) : Rho := match d with | some n => upd ρ n v | none => ρ
@[simp] theorem updO_some (ρ : Rho) (n : Nat) (v : AV) : updO ρ (some n) v = upd ρ n v := _root_.id rfl
@[simp] theorem updO_none (ρ : Rho) (v : AV) : updO ρ none v = ρ := _root_.id rfl

def evR (ρ : Rho) : Opd → AV
  | .t n => ρ n
  | .c x => x
@[simp] theorem evR_t (ρ : Rho) (n : Nat) : evR ρ (.t n) = ρ n := _root_.id rfl
@[simp] theorem evR_c (ρ : Rho) (x : AV) : evR ρ (.c x) = x := _root_.id rfl

theorem rho_set {τ : List AV} {n : Nat} {v : AV} (h : n < τ.length) : rho (τ.set n v) = upd (rho τ) n v := by
  funext m
  simp only [rho, upd, List.getD_eq_getElem?_getD, List.getElem?_set]
  by_cases e : m = n
  · subst e; simp [h]
  · simp [e, Ne.symm e]
theorem rho_aput {τ : List AV} {d : Option Nat} {v : AV} (h : ∀ n, d = some n → n < τ.length) : rho (aput d v τ) = updO (rho τ) d v := by
  cases d with
  | none => rfl
  | some n => exact rho_set (h n rfl)
theorem aeval_rho (τ : List AV) : aeval τ = evR (rho τ) := by
  funext x; cases x <;> rfl
theorem aput_length (d : Option Nat) (v : AV) (τ : List AV) : (aput d v τ).length = τ.length := by cases d <;> simp [aput]

def aopR (ev : Opd → AV) (H : Hp) : AOp → Option (AV × Option Hp)
  | .mov x => some (ev x, none)
  | .pick c a b =>
    match ev c with
    | .lit (.bool t) => some (if t then ev a else ev b, none)
    | _ => none
  | .box t x => let v := ev x; if v.good then some (.ptr H.l.length 0, some (halloc H (.cells v.cells t))) else none
  | .new t z => if z.good then some (.ptr H.l.length 0, some (halloc H (.cells z.cells t))) else none
  | .build z ps => (fillA z (ps.map fun (o, s, x) => (o, s, ev x))).map fun cs => (.agg cs, none)
  | .bslice e sz lay len z ps =>
    (fillA (repl len z) (ps.map fun (o, s, x) => (o, s, ev x))).bind fun cs =>
      if (chunk sz lay len cs).all (fun y => y.good && y.cells.length == sz && (lay.isSome || y.one)) then some (.ra sz H.l.length 0 len, some (halloc H (.arr sz (chunk sz lay len cs) e))) else none
  | .load n a => (aload H n (ev a)).map fun v => (v, none)
  | .store n a x => (astore H n (ev a) (ev x)).map fun H' => (avU, some H')
  | .nilchk x =>
    if (ev x).isRef then some (ev x, none) else none
  | .bin op x y => (abin op (ev x) (ev y)).map fun v => (v, none)
  | .eq neg d x y => (aeq d (ev x) (ev y)).map fun b => (avBool (if neg then !b else b), none)
  | .un op x => (aun op (ev x)).map fun v => (v, none)
  | .conv c x => aconv H c (ev x)
  | .mkfn f fs cs => some (.fn f (fs.map (ev)) (cs.map (ev)), none)
  | .mkmap => some (.map H.l.length, some (halloc H (.map [] 0)))
  | .mkslice e sz bytes z l c =>
    match ev l, ev c with
    | .lit (.int _ n), .lit (.int _ m) =>
      if 0 ≤ n ∧ n = m ∧ m.toNat * bytes ≤ roomMax ∧ z.good = true ∧ z.cells.length = sz then
        some (.ra sz H.l.length 0 n.toNat, some (halloc H (.arr sz (List.replicate n.toNat z) e)))
      else none
    | _, _ => none
  | .slstr x lo hi => (aslstr (ev x) (lo.map ev) (hi.map (ev))).map fun v => (v, none)
  | .slice sz x lo hi => (aslice sz (ev x) (lo.map ev) (hi.map (ev))).map fun v => (v, none)
  | .faddr off x => (afaddr off (ev x)).map fun v => (v, none)
  | .field off n x => (afield off n (ev x)).map fun v => (v, none)
  | .iaddr sz x i => (aiaddr sz (ev x) (ev i)).map fun v => (v, none)
  | .sidx x i => (asidx (ev x) (ev i)).map fun v => (v, none)
  | .lookup kd z m k ok => (asKey kd (ev k)).bind fun k => (aLookup H kd z ok k (ev m)).map fun v => (v, none)
  | .mapupd kd m k v => (asKey kd (ev k)).bind fun k => (aMapupd H kd k (ev v) (ev m)).map fun H' => (avU, some H')
  | .extract t i =>
    match ev t with
    | .tup xs => (xs[i]?).map fun v => (v, none)
    | .lit (.tuple xs) => (xs[i]?).map fun v => (AV.lit v, none)
    | _ => none
  | .len x => (asLen (ev x)).map fun (n : Nat) => (avInt .i64 (n : Int), none)
  | .lens x =>
    match ev x with
    | .lit (.string s) => some (avInt .i64 ((bl s).length : Int), none)
    | _ => none
  | .lenm x => (aLenm H (ev x)).map fun v => (v, none)
  | .append e sz bytes s x => (asElems H (ev x)).bind (appendOn H e sz bytes (ev s))
  | .appends e sz bytes s x => (srcStr (ev x)).bind (appendOn H e sz bytes (ev s))
  | .delete kd m k => (asKey kd (ev k)).bind fun k => (aDelete H kd k (ev m)).map fun H' => (avU, H')
  | .clear sz z x => (aClear H sz z (ev x)).map fun H' => (avU, H')
  | .mnmx mx xs =>
    match xs.map (ev) with
    | [] => none
    | x :: r => (mnmx mx x r).map fun v => (v, none)
  | .call _ _ => none


theorem aop_aopR (τ : List AV) (H : Hp) (ao : AOp) : aop τ H ao = aopR (evR (rho τ)) H ao := by
  rw [← aeval_rho]
  cases ao <;> rfl

def aopER (E : Env) (ρ : Rho) (H : Hp) : AOp → Option (AV × Option Hp)
  | .call f args => callV E (evR ρ f) (args.map (evR ρ)) H
  | ao => aopR (evR ρ) H ao
theorem aopE_rho (E : Env) (τ : List AV) (H : Hp) (ao : AOp) : aopE E τ H ao = aopER E (rho τ) H ao := by
  have key := aop_aopR τ H ao
  cases ao <;> first | exact key | (simp only [aopE, aopER, aeval_rho]; done)

/-- One operation. q: how quiet it is; 3: it stands in an ordered row. -/
def wpA (E : Env) (q : Nat) (ao : AOp) (ρ : Rho) (H : Hp) (Q : AV → Hp → Prop) : Prop :=
  match q with
  | 0 => ∃ v h, aopER E ρ H ao = some (v, h) ∧ Q v (h.getD H)
  | 1 => ∃ v h, aopER E ρ { l := H.l, d := none } ao = some (v, h) ∧ (match h with | none => Q v H | some H' => keeps H H' = true ∧ Q v { l := H'.l, d := dminO H.d H'.d })
  | _ => ∃ v, aopER E ρ H ao = some (v, none) ∧ Q v H

/-- Behind a guard: what was skipped is taken for false. -/
def gate (x : AV) (b : Bool) (A B : Prop) : Prop := (∃ t, x = avBool t ∧ (t = b → A) ∧ (t ≠ b → B)) ∨ (x = avU ∧ B)

def wpO (E : Env) : List (AOper × Nat) → Rho → Hp → (Rho → Hp → Prop) → Prop
  | [], ρ, H, Q => Q ρ H
  | o :: r, ρ, H, Q =>
    match o.1.grd with
    | none => wpA E o.2 o.1.op ρ H fun v H' => wpO E r (updO ρ o.1.dst v) H' Q
    | some (d, b) => gate (ρ d) b (wpA E o.2 o.1.op ρ H fun v H' => wpO E r (updO ρ o.1.dst v) H' Q) (wpO E r (updO ρ o.1.dst avU) H Q)

def lvQ (q : Nat) : Nat := if q = 3 then 0 else q
def rdR (o : AOper) (ρ : Rho) : List Nat := match o.op with | .load _ a => ridOf (evR ρ a) | _ => []
def killR (o : AOper) (ρ : Rho) : Option Nat := match o.op with | .append _ _ _ s _ => kid (evR ρ s) | .appends _ _ _ s _ => kid (evR ρ s) | .store _ a _ => sid (evR ρ a) | _ => none
def noKill (R : List Nat) (k : Option Nat) : Bool := match k with | some id => !R.contains id | none => true
/-- A drawn row in which an append stands in no order with a load. -/
def wpK (E : Env) : List Nat → List (AOper × Nat) → Rho → Hp → (Rho → Hp → Prop) → Prop
  | _, [], ρ, H, Q => Q ρ H
  | R, o :: r, ρ, H, Q =>
    (o.2 = 3 → noKill R (killR o.1 ρ) = true) ∧
    match o.1.grd with
    | none => wpA E (lvQ o.2) o.1.op ρ H fun v H' => wpK E (rdR o.1 ρ ++ R) r (updO ρ o.1.dst v) H' Q
    | some (d, b) => gate (ρ d) b (wpA E (lvQ o.2) o.1.op ρ H fun v H' => wpK E (rdR o.1 ρ ++ R) r (updO ρ o.1.dst v) H' Q) (wpK E (rdR o.1 ρ ++ R) r (updO ρ o.1.dst avU) H Q)

def difR (ρ : Rho) (df : List (Nat × Nat)) : Bool := df.all fun p => match ρ p.1, ρ p.2 with | .ptr i _, .ptr j _ => i != j | _, _ => false

abbrev Post := AX → Rho → Hp → Prop

/-- Rounds of a loop: at most k. -/
def iter (step : Rho → Hp → Post → Prop) (Q : Post) : Nat → Rho → Hp → Prop
  | 0, _, _ => False
  | k + 1, ρ, H => step ρ H fun x ρ' H' => match x with | .nrm => iter step Q k ρ' H' | x => Q x ρ' H'

def dstO (n : Nat) (d : Option Nat) : Bool := match d with | some m => decide (m < n) | none => true
/-- Are all temporaries that are written below n? -/
def dstOK (n : Nat) : AC → Bool
  | .seq a b => dstOK n a && dstOK n b
  | .ops l => l.all fun o => dstO n o.dst
  | .dops _ l q _ => l.all (fun o => dstO n o.dst) && decide (l.length = q.length)
  | .cond _ a b => dstOK n a && dstOK n b
  | .block _ b => dstOK n b
  | .loop b => dstOK n b
  | .rangeFn _ ps a b => ps.all (fun p => decide (p < n)) && dstOK n a && dstOK n b
  | _ => true

def wp (E : Env) (rd : Option Nat) : AC → Rho → Hp → Post → Prop
  | .skip, ρ, H, Q => Q .nrm ρ H
  | .seq a b, ρ, H, Q => wp E rd a ρ H fun x ρ' H' => match x with | .nrm => wp E rd b ρ' H' Q | x => Q x ρ' H'
  | .ops l, ρ, H, Q => wpO E (l.map fun o => (o, 0)) ρ H (Q .nrm)
  | .dops _ l q df, ρ, H, Q => difR ρ df = true ∧ (if q.contains 3 then wpK E [] (l.zip q) ρ H (Q .nrm) else wpO E (l.zip q) ρ H (Q .nrm))
  | .cond c a b, ρ, H, Q => ∃ t, evR ρ c = avBool t ∧ (t = true → wp E rd a ρ H Q) ∧ (t = false → wp E rd b ρ H Q)
  | .block id b, ρ, H, Q => wp E rd b ρ H fun x ρ' H' => match x with | .exit i => if i = id then Q .nrm ρ' H' else Q (.exit i) ρ' H' | x => Q x ρ' H'
  | .loop b, ρ, H, Q => ∃ k, iter (fun ρ H Q => wp E rd b ρ H Q) Q k ρ H
  | .exit id, ρ, H, Q => Q (.exit id) ρ H
  | .ret, ρ, H, Q => Q .ret ρ H
  | .rangeFn f ps asg body, ρ, H, Q => ∀ τ, rho τ = ρ → (ps.all (fun p => decide (p < τ.length)) && dstOK τ.length asg && dstOK τ.length body) = true → ∃ x H', E.range rd (evR ρ f) ps asg body τ H = some (x, τ, H') ∧ Q x ρ H'

theorem dstO_spec {n : Nat} {d : Option Nat} (h : dstO n d = true) : ∀ m, d = some m → m < n := by
  intro m e; subst e; simpa [dstO] using h

/-- What wp promises. -/
def Runs (E : Env) (rd : Option Nat) (c : AC) (τ : List AV) (H : Hp) (Q : Post) : Prop := ∃ x τ' H', execC E rd c τ H = some (x, τ', H') ∧ τ'.length = τ.length ∧ Q x (rho τ') H'

section
variable {E : Env}

theorem wpA_act {q : Nat} {o : AOper} {τ : List AV} {H : Hp} {Q : AV → Hp → Prop} (hw : wantA τ o.grd = some true) (h : wpA E q o.op (rho τ) H Q) : ∃ v h, actQ E q o τ H = some (v, h) ∧ Q v (h.getD H) := by
  unfold wpA at h
  split at h
  · obtain ⟨v, h1, e, hq⟩ := h
    rw [← aopE_rho] at e
    exact ⟨v, h1, by unfold actQ actO; rw [hw]; exact e, hq⟩
  · obtain ⟨v, h1, e, hq⟩ := h
    rw [← aopE_rho] at e
    cases h1 with
    | none =>
      refine ⟨v, none, ?_, hq⟩
      unfold actQ actO; rw [hw]; simp only [e]
    | some H' =>
      refine ⟨v, some { l := H'.l, d := dminO H.d H'.d }, ?_, hq.2⟩
      unfold actQ actO; rw [hw]; simp only [e, hq.1, if_true]
  · rename_i n1 n2
    obtain ⟨v, e, hq⟩ := h
    rw [← aopE_rho] at e
    refine ⟨v, none, ?_, hq⟩
    unfold actQ
    split
    · exact absurd rfl n1
    · exact absurd rfl n2
    · unfold actO; rw [hw]; exact e
    · unfold actO; rw [hw]; simp only [e]

theorem wantA_rho {τ : List AV} {d : Nat} {b t : Bool} (h : rho τ d = avBool t) : wantA τ (some (d, b)) = some (t == b) := by
  have h' : τ.getD d avU = avBool t := h
  simp only [wantA, h']

theorem actQ_skip {q : Nat} {o : AOper} {τ : List AV} {H : Hp} (hw : wantA τ o.grd = some false) : actQ E q o τ H = some (avU, none) := by
  unfold actQ actO
  split <;> rw [hw]

theorem wpO_sound : ∀ {l : List (AOper × Nat)} {R : List Nat} {τ : List AV} {H : Hp} {Q : Rho → Hp → Prop}, (l.all fun o => dstO τ.length o.1.dst) = true → (∀ o ∈ l, o.2 ≠ 3) → wpO E l (rho τ) H Q → ∃ τ' H', execQ E R l τ H = some (τ', H') ∧ τ'.length = τ.length ∧ Q (rho τ') H'
  | [], R, τ, H, Q, _, _, h => ⟨τ, H, rfl, rfl, h⟩
  | o :: r, R, τ, H, Q, hd, h3, h => by
    simp only [List.all_cons, Bool.and_eq_true] at hd
    have hk : killOK R o τ = true := by have := h3 o (by simp); unfold killOK; simp [this]
    have fin : ∀ {v : AV} {h1 : Option Hp}, actQ E o.2 o.1 τ H = some (v, h1) → wpO E r (updO (rho τ) o.1.dst v) (h1.getD H) Q → ∃ τ' H', execQ E R (o :: r) τ H = some (τ', H') ∧ τ'.length = τ.length ∧ Q (rho τ') H' := by
      intro v h1 e hr
      rw [← rho_aput (dstO_spec hd.1)] at hr
      obtain ⟨τ', H', e2, e3, e4⟩ := wpO_sound (R := rdOf o.1 τ ++ R) (τ := aput o.1.dst v τ) (by rw [aput_length]; exact hd.2) (fun x hx => h3 x (by simp [hx])) hr
      exact ⟨τ', H', by simp only [execQ, e, e2, hk, if_true], by rw [e3, aput_length], e4⟩
    unfold wpO at h
    split at h
    · rename_i hg
      obtain ⟨v, h1, e, hr⟩ := wpA_act (by rw [hg]; rfl) h
      exact fin e hr
    · rename_i d b hg
      rcases h with ⟨t, ht, hy, hn⟩ | ⟨ht, hn⟩
      rotate_left
      · refine fin (actQ_skip ?_) hn
        rw [hg]
        have h' : τ.getD d avU = avU := ht
        simp only [wantA, h']
      by_cases htb : t = b
      · obtain ⟨v, h1, e, hr⟩ := wpA_act (by rw [hg, wantA_rho ht]; simp [htb]) (hy htb)
        exact fin e hr
      · exact fin (actQ_skip (by rw [hg, wantA_rho ht]; simp [htb])) (hn htb)
theorem rdR_rho {o : AOper} {τ : List AV} : rdR o (rho τ) = rdOf o τ := by
  obtain ⟨d, op, g⟩ := o
  cases op <;> simp [rdR, rdOf, aeval_rho]
theorem killR_rho {o : AOper} {τ : List AV} : killR o (rho τ) = killOf o τ := by
  obtain ⟨d, op, g⟩ := o
  cases op <;> simp [killR, killOf, aeval_rho]
theorem actQ_lv {q : Nat} {o : AOper} {τ : List AV} {H : Hp} : actQ E (lvQ q) o τ H = actQ E q o τ H := by
  unfold lvQ
  split
  · rename_i h; subst h; rfl
  · rfl
theorem wpK_sound : ∀ {l : List (AOper × Nat)} {R : List Nat} {τ : List AV} {H : Hp} {Q : Rho → Hp → Prop}, (l.all fun o => dstO τ.length o.1.dst) = true → wpK E R l (rho τ) H Q → ∃ τ' H', execQ E R l τ H = some (τ', H') ∧ τ'.length = τ.length ∧ Q (rho τ') H'
  | [], R, τ, H, Q, _, h => ⟨τ, H, rfl, rfl, h⟩
  | o :: r, R, τ, H, Q, hd, h => by
    simp only [List.all_cons, Bool.and_eq_true] at hd
    unfold wpK at h
    obtain ⟨hk0, h⟩ := h
    have hk : killOK R o τ = true := by
      unfold killOK
      by_cases h3 : o.2 = 3
      · have := hk0 h3
        rw [killR_rho] at this
        unfold noKill at this
        simp only [h3, bne_self_eq_false, Bool.false_or]
        exact this
      · simp [h3]
    rw [rdR_rho] at h
    have fin : ∀ {v : AV} {h1 : Option Hp}, actQ E o.2 o.1 τ H = some (v, h1) → wpK E (rdOf o.1 τ ++ R) r (updO (rho τ) o.1.dst v) (h1.getD H) Q → ∃ τ' H', execQ E R (o :: r) τ H = some (τ', H') ∧ τ'.length = τ.length ∧ Q (rho τ') H' := by
      intro v h1 e hr
      rw [← rho_aput (dstO_spec hd.1)] at hr
      obtain ⟨τ', H', e2, e3, e4⟩ := wpK_sound (τ := aput o.1.dst v τ) (by rw [aput_length]; exact hd.2) hr
      exact ⟨τ', H', by simp only [execQ, e, e2, hk, if_true], by rw [e3, aput_length], e4⟩
    split at h
    · rename_i hg
      obtain ⟨v, h1, e, hr⟩ := wpA_act (by rw [hg]; rfl) h
      rw [actQ_lv] at e
      exact fin e hr
    · rename_i d b hg
      rcases h with ⟨t, ht, hy, hn⟩ | ⟨ht, hn⟩
      rotate_left
      · refine fin (actQ_skip ?_) hn
        rw [hg]
        have h' : τ.getD d avU = avU := ht
        simp only [wantA, h']
      by_cases htb : t = b
      · obtain ⟨v, h1, e, hr⟩ := wpA_act (by rw [hg, wantA_rho ht]; simp [htb]) (hy htb)
        rw [actQ_lv] at e
        exact fin e hr
      · exact fin (actQ_skip (by rw [hg, wantA_rho ht]; simp [htb])) (hn htb)

theorem execOps_Q : ∀ (l : List AOper) (R : List Nat) (τ : List AV) (H : Hp), execOps E l τ H = execQ E R (l.map fun o => (o, 0)) τ H
  | [], R, τ, H => rfl
  | o :: l, R, τ, H => by
    simp only [execOps, List.map_cons, execQ]
    have : actQ E 0 o τ H = actO E o τ H := rfl
    rw [this, if_pos (show killOK R (o, 0) τ = true from rfl)]
    split
    · rename_i h1; exact execOps_Q l _ _ _
    · rfl

theorem wp_sound {Γ : Sums} {A : Tab} {rd : Option Nat} : ∀ (c : AC) {τ : List AV} {H : Hp} {Q : Post}, dstOK τ.length c = true → wp (lim Γ A) rd c (rho τ) H Q → Runs (lim Γ A) rd c τ H Q
  | .skip, τ, H, Q, hd, h => ⟨_, _, _, rfl, rfl, h⟩
  | .exit id, τ, H, Q, hd, h => ⟨_, _, _, rfl, rfl, h⟩
  | .ret, τ, H, Q, hd, h => ⟨_, _, _, rfl, rfl, h⟩
  | .seq a b, τ, H, Q, hd, h => by
    simp only [dstOK, Bool.and_eq_true] at hd
    simp only [wp] at h
    obtain ⟨x, τ', H', e1, e2, e3⟩ := wp_sound a hd.1 h
    cases x with
    | nrm =>
      obtain ⟨y, τ'', H'', f1, f2, f3⟩ := wp_sound b (by rw [e2]; exact hd.2) e3
      exact ⟨y, τ'', H'', by simp only [execC, e1, f1], by rw [f2, e2], f3⟩
    | ret => exact ⟨_, τ', H', by simp only [execC, e1], e2, e3⟩
    | exit i => exact ⟨_, τ', H', by simp only [execC, e1], e2, e3⟩
  | .ops l, τ, H, Q, hd, h => by
    simp only [wp] at h
    obtain ⟨τ', H', e1, e2, e3⟩ := wpO_sound (R := []) (by simpa [dstOK] using hd) (by simp) h
    exact ⟨.nrm, τ', H', by simp only [execC]; rw [execOps_Q l [], e1]; rfl, e2, e3⟩
  | .dops id l q df, τ, H, Q, hd, h => by
    simp only [wp] at h
    simp only [dstOK, Bool.and_eq_true, decide_eq_true_eq] at hd
    have hl : ((l.zip q).all fun o => dstO τ.length o.1.dst) = true := by
      rw [List.all_eq_true] at hd ⊢
      intro p hp
      exact hd.1 _ (List.of_mem_zip hp).1
    obtain ⟨τ', H', e1, e2, e3⟩ : ∃ τ' H', execQ (lim Γ A) [] (l.zip q) τ H = some (τ', H') ∧ τ'.length = τ.length ∧ Q .nrm (rho τ') H' := by
      have h2 := h.2
      split at h2
      · exact wpK_sound hl h2
      · rename_i hq
        refine wpO_sound hl (fun o ho h3 => ?_) h2
        have := (List.of_mem_zip ho).2
        rw [h3] at this
        exact hq (by simpa using this)
    exact ⟨.nrm, τ', H', by simp only [execC]; rw [if_pos (show difOK τ df = true from h.1), e1]; rfl, e2, e3⟩
  | .cond c a b, τ, H, Q, hd, h => by
    simp only [dstOK, Bool.and_eq_true] at hd
    simp only [wp] at h
    obtain ⟨t, ht, h1, h2⟩ := h
    rw [← aeval_rho] at ht
    cases t with
    | true =>
      obtain ⟨x, τ', H', e1, e2⟩ := wp_sound a hd.1 (h1 rfl)
      exact ⟨x, τ', H', by simp only [execC, ht]; exact e1, e2⟩
    | false =>
      obtain ⟨x, τ', H', e1, e2⟩ := wp_sound b hd.2 (h2 rfl)
      exact ⟨x, τ', H', by simp only [execC, ht]; exact e1, e2⟩
  | .block id b, τ, H, Q, hd, h => by
    simp only [wp] at h
    obtain ⟨x, τ', H', e1, e2, e3⟩ := wp_sound b (by simpa [dstOK] using hd) h
    cases x with
    | nrm => exact ⟨_, τ', H', by simp only [execC, e1], e2, e3⟩
    | ret => exact ⟨_, τ', H', by simp only [execC, e1], e2, e3⟩
    | exit i =>
      simp only [] at e3
      by_cases hi : i = id
      · rw [if_pos hi] at e3
        exact ⟨_, τ', H', by simp only [execC, e1, if_pos hi], e2, e3⟩
      · rw [if_neg hi] at e3
        exact ⟨_, τ', H', by simp only [execC, e1, if_neg hi], e2, e3⟩
  | .loop b, τ, H, Q, hd, h => by
    simp only [wp] at h
    obtain ⟨k, h⟩ := h
    have hb : ∀ {τ' : List AV} {H : Hp} {Q : Post}, τ'.length = τ.length → wp (lim Γ A) rd b (rho τ') H Q → Runs (lim Γ A) rd b τ' H Q := fun hl h => wp_sound b (by rw [hl]; simpa [dstOK] using hd) h
    have key : ∀ k (τ' : List AV) (H : Hp), τ'.length = τ.length → iter (fun ρ H Q => wp (lim Γ A) rd b ρ H Q) Q k (rho τ') H → ∃ x τ'' H', (lim Γ A).loop rd b τ' H = some (x, τ'', H') ∧ τ''.length = τ.length ∧ Q x (rho τ'') H' := by
      intro k
      induction k with
      | zero => intro τ' H _ h; exact h.elim
      | succ k ih =>
        intro τ' H hl h
        simp only [iter] at h
        obtain ⟨x, τ1, H1, e1, e2, e3⟩ := hb hl h
        rw [lim_loop_eq, e1]
        cases x with
        | nrm => exact ih τ1 H1 (by rw [e2, hl]) e3
        | ret => exact ⟨_, _, _, rfl, by rw [e2, hl], e3⟩
        | exit i => exact ⟨_, _, _, rfl, by rw [e2, hl], e3⟩
    obtain ⟨x, τ'', H', e1, e2, e3⟩ := key k τ H rfl h
    exact ⟨x, τ'', H', by simp only [execC]; exact e1, e2, e3⟩
  | .rangeFn f ps asg body, τ, H, Q, hd, h => by
    simp only [wp] at h
    obtain ⟨x, H', e1, e2⟩ := h τ rfl (by simpa only [dstOK] using hd)
    exact ⟨x, τ, H', by simp only [execC]; rw [aeval_rho]; exact e1, rfl, e2⟩

theorem wpA_mono {q : Nat} {ao : AOp} {ρ : Rho} {H : Hp} {Q Q' : AV → Hp → Prop} (hq : ∀ v H, Q v H → Q' v H) (h : wpA E q ao ρ H Q) : wpA E q ao ρ H Q' := by
  unfold wpA at *
  split at h
  · obtain ⟨v, h1, e, k⟩ := h; exact ⟨v, h1, e, hq _ _ k⟩
  · obtain ⟨v, h1, e, k⟩ := h
    refine ⟨v, h1, e, ?_⟩
    cases h1 with
    | none => exact hq _ _ k
    | some H' => exact ⟨k.1, hq _ _ k.2⟩
  · obtain ⟨v, e, k⟩ := h; exact ⟨v, e, hq _ _ k⟩

theorem wpO_mono : ∀ {l : List (AOper × Nat)} {ρ : Rho} {H : Hp} {Q Q' : Rho → Hp → Prop}, (∀ ρ H, Q ρ H → Q' ρ H) → wpO E l ρ H Q → wpO E l ρ H Q'
  | [], ρ, H, Q, Q', hq, h => hq _ _ h
  | o :: r, ρ, H, Q, Q', hq, h => by
    simp only [wpO] at h ⊢
    cases hg : o.1.grd with
    | none =>
      rw [hg] at h
      exact wpA_mono (fun v H h => wpO_mono hq h) h
    | some p =>
      rw [hg] at h
      rcases h with ⟨t, ht, h1, h2⟩ | ⟨ht, h2⟩
      · exact .inl ⟨t, ht, fun e => wpA_mono (fun v H h => wpO_mono hq h) (h1 e), fun e => wpO_mono hq (h2 e)⟩
      · exact .inr ⟨ht, wpO_mono hq h2⟩

theorem wpK_mono : ∀ {l : List (AOper × Nat)} {R : List Nat} {ρ : Rho} {H : Hp} {Q Q' : Rho → Hp → Prop}, (∀ ρ H, Q ρ H → Q' ρ H) → wpK E R l ρ H Q → wpK E R l ρ H Q'
  | [], R, ρ, H, Q, Q', hq, h => hq _ _ h
  | o :: r, R, ρ, H, Q, Q', hq, h => by
    simp only [wpK] at h ⊢
    obtain ⟨h0, h⟩ := h
    refine ⟨h0, ?_⟩
    cases hg : o.1.grd with
    | none =>
      rw [hg] at h
      exact wpA_mono (fun v H h => wpK_mono hq h) h
    | some p =>
      rw [hg] at h
      rcases h with ⟨t, ht, h1, h2⟩ | ⟨ht, h2⟩
      · exact .inl ⟨t, ht, fun e => wpA_mono (fun v H h => wpK_mono hq h) (h1 e), fun e => wpK_mono hq (h2 e)⟩
      · exact .inr ⟨ht, wpK_mono hq h2⟩

theorem wp_mono {rd : Option Nat} (c : AC) : ∀ {ρ : Rho} {H : Hp} {Q Q' : Post}, (∀ x ρ H, Q x ρ H → Q' x ρ H) → wp E rd c ρ H Q → wp E rd c ρ H Q' := by
  induction c with
  | skip => intro ρ H Q Q' hq h; exact hq _ _ _ h
  | exit id => intro ρ H Q Q' hq h; exact hq _ _ _ h
  | ret => intro ρ H Q Q' hq h; exact hq _ _ _ h
  | seq a b iha ihb =>
    intro ρ H Q Q' hq h
    simp only [wp] at h ⊢
    refine iha (fun x ρ H k => ?_) h
    cases x with
    | nrm => exact ihb hq k
    | ret => exact hq _ _ _ k
    | exit i => exact hq _ _ _ k
  | ops l => intro ρ H Q Q' hq h; simp only [wp] at h ⊢; exact wpO_mono (fun ρ H k => hq _ _ _ k) h
  | dops id l q df =>
    intro ρ H Q Q' hq h
    simp only [wp] at h ⊢
    refine ⟨h.1, ?_⟩
    have h2 := h.2
    by_cases hc : q.contains 3 = true
    · rw [if_pos hc] at h2 ⊢; exact wpK_mono (fun ρ H k => hq _ _ _ k) h2
    · rw [if_neg hc] at h2 ⊢; exact wpO_mono (fun ρ H k => hq _ _ _ k) h2
  | cond c a b iha ihb =>
    intro ρ H Q Q' hq h
    simp only [wp] at h ⊢
    obtain ⟨t, ht, h1, h2⟩ := h
    exact ⟨t, ht, fun e => iha hq (h1 e), fun e => ihb hq (h2 e)⟩
  | block id b ihb =>
    intro ρ H Q Q' hq h
    simp only [wp] at h ⊢
    refine ihb (fun x ρ H k => ?_) h
    cases x with
    | nrm => exact hq _ _ _ k
    | ret => exact hq _ _ _ k
    | exit i =>
      simp only [] at k ⊢
      split at k
      · rename_i hi; rw [if_pos hi]; exact hq _ _ _ k
      · rename_i hi; rw [if_neg hi]; exact hq _ _ _ k
  | loop b ihb =>
    intro ρ H Q Q' hq h
    simp only [wp] at h ⊢
    obtain ⟨k, h⟩ := h
    refine ⟨k, ?_⟩
    have : ∀ k ρ H, iter (fun ρ H Q => wp E rd b ρ H Q) Q k ρ H → iter (fun ρ H Q => wp E rd b ρ H Q) Q' k ρ H := by
      intro k
      induction k with
      | zero => intro ρ H h; exact h
      | succ k ih =>
        intro ρ H h
        simp only [iter] at h ⊢
        refine ihb (fun x ρ H j => ?_) h
        cases x with
        | nrm => exact ih _ _ j
        | ret => exact hq _ _ _ j
        | exit i => exact hq _ _ _ j
    exact this k ρ H h
  | rangeFn f ps asg body =>
    intro ρ H Q Q' hq h
    simp only [wp] at h ⊢
    intro τ ht ho
    obtain ⟨x, H', e, k⟩ := h τ ht ho
    exact ⟨x, H', e, hq _ _ _ k⟩

/-- A loop by an invariant that falls. -/
theorem wp_loop {rd : Option Nat} {b : AC} {ρ : Rho} {H : Hp} {Q : Post} (I : Nat → Rho → Hp → Prop) {n : Nat} (h0 : I n ρ H)
    (hs : ∀ n ρ H, I n ρ H → wp E rd b ρ H fun x ρ' H' => match x with | .nrm => ∃ m, m < n ∧ I m ρ' H' | x => Q x ρ' H') : wp E rd (.loop b) ρ H Q := by
  simp only [wp]
  have key : ∀ n ρ H, I n ρ H → ∃ k, ∀ j, k ≤ j → iter (fun ρ H Q => wp E rd b ρ H Q) Q j ρ H := by
    intro n
    induction n using Nat.strongRecOn with
    | _ n ih =>
      intro ρ H hI
      -- bound: n + 1 rounds suffice
      refine ⟨n + 1, ?_⟩
      have bound : ∀ (j n : Nat) (ρ : Rho) (H : Hp), n < j → I n ρ H → iter (fun ρ H Q => wp E rd b ρ H Q) Q j ρ H := by
        intro j
        induction j with
        | zero => intro n ρ H hn _; omega
        | succ j ihj =>
          intro n ρ H hn hI
          simp only [iter]
          refine wp_mono b (fun x ρ H k => ?_) (hs n ρ H hI)
          cases x with
          | nrm =>
            simp only [] at k ⊢
            obtain ⟨m, hm, hI⟩ := k
            exact ihj m ρ H (by omega) hI
          | ret => exact k
          | exit i => exact k
      intro j hj
      exact bound j n ρ H (by omega) hI
  obtain ⟨k, hk⟩ := key n ρ H h0
  exact ⟨k, hk k (Nat.le_refl _)⟩
end

/-! ### Calls -/
def rho0 (args : List AV) : Rho := fun i => args.getD i avU
theorem rho_args (args : List AV) (k : Nat) : rho (args ++ List.replicate k avU) = rho0 args := by
  funext i
  simp only [rho, rho0, List.getD_eq_getElem?_getD]
  by_cases h : i < args.length
  · rw [List.getElem?_append_left h]
  · rw [List.getElem?_append_right (by omega), List.getElem?_eq_none (by omega : args.length ≤ i)]
    by_cases h2 : i - args.length < k
    · simp [List.getElem?_replicate, h2]
    · simp [List.getElem?_replicate, h2]

def resOneR (ρ : Rho) (H : Hp) : Sum Nat (Nat × Option Nat) → Option AV
  | .inl t => some (ρ t)
  | .inr (t, lay) => aload H lay (ρ t)
def resR (rs : List (Sum Nat (Nat × Option Nat))) (ρ : Rho) (H : Hp) : Option AV :=
  match rs.mapM (resOneR ρ H) with
  | some [v] => some v
  | some vs => some (.tup vs)
  | none => none
theorem resA_rho (rs : List (Sum Nat (Nat × Option Nat))) (τ : List AV) (H : Hp) : resA rs τ H = resR rs (rho τ) H := rfl

def okF (fn : AFunc) (k : Nat) : Bool := dstOK (k + (fn.ntmps - k)) fn.body

/-- What the code of a function owes. -/
def Ends (rs : List (Sum Nat (Nat × Option Nat))) (z : Bool) (H : Hp) (r : AV × Option Hp → Prop) : Post := fun x ρ H' => (x = .nrm ∨ x = .ret) ∧ ∃ v, resR rs ρ H' = some v ∧ r (settleZ z H v H')

theorem runF_of_wp {Γ : Sums} {A : Tab} {fn : AFunc} {args : List AV} {H : Hp} {R : AV × Option Hp → Prop} (hd : okF fn args.length = true)
    (h : wp (lim Γ A) none fn.body (rho0 args) { l := H.l, d := none } (Ends fn.results fn.frz H R)) : ∃ r, runF (execC (lim Γ A) none) fn args H = some r ∧ R r := by
  rw [← rho_args args (fn.ntmps - args.length)] at h
  obtain ⟨x, τ', H', e1, e2, hx, v, e3, e4⟩ := wp_sound fn.body (by simpa [okF] using hd) h
  refine ⟨settleZ fn.frz H v H', ?_, e4⟩
  unfold runF
  rcases hx with rfl | rfl <;> rw [e1] <;> simp only [] <;> rw [resA_rho, e3] <;> rfl

theorem call_of_wp {Γ : Sums} {A : Tab} {f : FuncId} {fn : AFunc} {args : List AV} {H : Hp} {R : AV × Option Hp → Prop} (hΓ : Γ f args H = none) (hA : A f = some fn) (hd : okF fn args.length = true)
    (h : wp (lim Γ A) none fn.body (rho0 args) { l := H.l, d := none } (Ends fn.results fn.frz H R)) : ∃ r, (lim Γ A).call f args H = some r ∧ R r := by
  obtain ⟨r, e, hr⟩ := runF_of_wp hd h
  exact ⟨r, by rw [lim_call_eq, hΓ, hA]; exact e, hr⟩

end Go.Proofs.Eng
/- The engine, part AC: laws by which a weakest precondition is reckoned step by step. -/
set_option linter.unusedVariables false
set_option linter.unusedSimpArgs false
namespace Go.Proofs.Eng
open Go Go.RowKit

/-! ### Combinators of which only the head is reckoned -/
/-- A mark that keeps what it names from being reckoned ahead of time: what another argument's type names is left as it is. -/
inductive Mk.{u} {α : Sort u} (a : α) : Type where
  | mk
def bindO {α : Type} (o : Option α) (K : α → Prop) (m : Mk K := .mk) : Prop := ∃ v, o = some v ∧ K v
@[congr] theorem bindO_congr {α : Type} {o o' : Option α} {K : α → Prop} {m : Mk K} (h : o = o') : bindO o K m = bindO o' K m := by rw [h]
@[simp, simp ↓] theorem bindO_some {α : Type} {v : α} {K : α → Prop} {m : Mk K} : bindO (some v) K m = K v := by simp [bindO]
def bindH (o : Option (AV × Option Hp)) (H : Hp) (Q : AV → Hp → Prop) (m : Mk Q := .mk) (m' : Mk H := .mk) : Prop := ∃ v h, o = some (v, h) ∧ Q v (h.getD H)
@[congr] theorem bindH_congr {o o' : Option (AV × Option Hp)} {H : Hp} {Q : AV → Hp → Prop} {m : Mk Q} {m' : Mk H} (h : o = o') : bindH o H Q m m' = bindH o' H Q m m' := by rw [h]
@[simp, simp ↓] theorem bindH_none {v : AV} {H : Hp} {Q : AV → Hp → Prop} {m : Mk Q} {m' : Mk H} : bindH (some (v, none)) H Q m m' = Q v H := by
  apply propext
  constructor
  · rintro ⟨u, h, e, k⟩; simp only [Option.some.injEq, Prod.mk.injEq] at e; obtain ⟨rfl, rfl⟩ := e; exact k
  · intro k; exact ⟨v, none, rfl, k⟩
@[simp, simp ↓] theorem bindH_some {v : AV} {H H' : Hp} {Q : AV → Hp → Prop} {m : Mk Q} {m' : Mk H} : bindH (some (v, some H')) H Q m m' = Q v H' := by
  apply propext
  constructor
  · rintro ⟨u, h, e, k⟩; simp only [Option.some.injEq, Prod.mk.injEq] at e; obtain ⟨rfl, rfl⟩ := e; exact k
  · intro k; exact ⟨v, some H', rfl, k⟩
theorem bindH_opt {v : AV} {h : Option Hp} {H : Hp} {Q : AV → Hp → Prop} {m : Mk Q} {m' : Mk H} : bindH (some (v, h)) H Q m m' = Q v (h.getD H) := by
  cases h <;> simp
/-- A call that may write no old object. -/
def bindH1 (o : Option (AV × Option Hp)) (H : Hp) (Q : AV → Hp → Prop) (m : Mk Q := .mk) (m' : Mk H := .mk) : Prop := ∃ v h, o = some (v, h) ∧ (match h with | none => Q v H | some H' => keeps H H' = true ∧ Q v { l := H'.l, d := dminO H.d H'.d })
@[congr] theorem bindH1_congr {o o' : Option (AV × Option Hp)} {H : Hp} {Q : AV → Hp → Prop} {m : Mk Q} {m' : Mk H} (h : o = o') : bindH1 o H Q m m' = bindH1 o' H Q m m' := by rw [h]
@[simp, simp ↓] theorem bindH1_none {v : AV} {H : Hp} {Q : AV → Hp → Prop} {m : Mk Q} {m' : Mk H} : bindH1 (some (v, none)) H Q m m' = Q v H := by
  apply propext
  constructor
  · rintro ⟨u, h, e, k⟩; simp only [Option.some.injEq, Prod.mk.injEq] at e; obtain ⟨rfl, rfl⟩ := e; exact k
  · intro k; exact ⟨v, none, rfl, k⟩
def bindH2 (o : Option (AV × Option Hp)) (H : Hp) (Q : AV → Hp → Prop) (m : Mk Q := .mk) (m' : Mk H := .mk) : Prop := ∃ v, o = some (v, none) ∧ Q v H
@[congr] theorem bindH2_congr {o o' : Option (AV × Option Hp)} {H : Hp} {Q : AV → Hp → Prop} {m : Mk Q} {m' : Mk H} (h : o = o') : bindH2 o H Q m m' = bindH2 o' H Q m m' := by rw [h]
@[simp, simp ↓] theorem bindH2_none {v : AV} {H : Hp} {Q : AV → Hp → Prop} {m : Mk Q} {m' : Mk H} : bindH2 (some (v, none)) H Q m m' = Q v H := by
  apply propext
  constructor
  · rintro ⟨u, e, k⟩; simp only [Option.some.injEq, Prod.mk.injEq, and_true] at e; subst e; exact k
  · intro k; exact ⟨v, rfl, k⟩
def bindB (x : AV) (K : Bool → Prop) (m : Mk K := .mk) : Prop := ∃ t, x = avBool t ∧ K t
@[congr] theorem bindB_congr {x x' : AV} {K : Bool → Prop} {m : Mk K} (h : x = x') : bindB x K m = bindB x' K m := by rw [h]
@[simp, simp ↓] theorem bindB_lit {t : Bool} {K : Bool → Prop} {m : Mk K} : bindB (.lit (.bool t)) K m = K t := by
  apply propext
  constructor
  · rintro ⟨u, e, k⟩; simp only [AV.lit.injEq, Value.bool.injEq] at e; subst e; exact k
  · intro k; exact ⟨t, rfl, k⟩
def bindI (x : AV) (K : Int → Prop) (m : Mk K := .mk) : Prop := ∃ k n, x = .lit (.int k n) ∧ K n
@[congr] theorem bindI_congr {x x' : AV} {K : Int → Prop} {m : Mk K} (h : x = x') : bindI x K m = bindI x' K m := by rw [h]
@[simp, simp ↓] theorem bindI_lit {k : IntKind} {n : Int} {K : Int → Prop} {m : Mk K} : bindI (.lit (.int k n)) K m = K n := by
  apply propext
  constructor
  · rintro ⟨j, u, e, h⟩; simp only [AV.lit.injEq, Value.int.injEq] at e; obtain ⟨_, rfl⟩ := e; exact h
  · intro h; exact ⟨_, _, rfl, h⟩
def bindS (x : AV) (K : ByteArray → Prop) (m : Mk K := .mk) : Prop := ∃ s, x = .lit (.string s) ∧ K s
@[congr] theorem bindS_congr {x x' : AV} {K : ByteArray → Prop} {m : Mk K} (h : x = x') : bindS x K m = bindS x' K m := by rw [h]
@[simp, simp ↓] theorem bindS_lit {s : ByteArray} {K : ByteArray → Prop} {m : Mk K} : bindS (.lit (.string s)) K m = K s := by
  apply propext
  constructor
  · rintro ⟨u, e, h⟩; simp only [AV.lit.injEq, Value.string.injEq] at e; subst e; exact h
  · intro h; exact ⟨_, rfl, h⟩
def andQ (p K : Prop) (m : Mk K := .mk) : Prop := p ∧ K
@[congr] theorem andQ_congr {p p' K : Prop} {m : Mk K} (h : p = p') : andQ p K m = andQ p' K m := by rw [h]
@[simp, simp ↓] theorem andQ_true {K : Prop} {m : Mk K} : andQ True K m = K := by simp [andQ]
def iteP (t : Bool) (A B : Prop) (m : Mk A := .mk) (m' : Mk B := .mk) : Prop := (t = true → A) ∧ (t = false → B)
@[congr] theorem iteP_congr {t t' : Bool} {A B : Prop} {m : Mk A} {m' : Mk B} (h : t = t') : iteP t A B m m' = iteP t' A B m m' := by rw [h]
@[simp, simp ↓] theorem iteP_true {A B : Prop} {m : Mk A} {m' : Mk B} : iteP true A B m m' = A := by simp [iteP]
@[simp, simp ↓] theorem iteP_false {A B : Prop} {m : Mk A} {m' : Mk B} : iteP false A B m m' = B := by simp [iteP]
def guardP (t b : Bool) (A B : Prop) (m : Mk A := .mk) (m' : Mk B := .mk) : Prop := (t = b → A) ∧ (t ≠ b → B)
@[congr] theorem guardP_congr {t t' b : Bool} {A B : Prop} {m : Mk A} {m' : Mk B} (h : t = t') : guardP t b A B m m' = guardP t' b A B m m' := by rw [h]
@[simp, simp ↓] theorem guardP_tt {A B : Prop} {m : Mk A} {m' : Mk B} : guardP true true A B m m' = A := by simp [guardP]
@[simp, simp ↓] theorem guardP_ff {A B : Prop} {m : Mk A} {m' : Mk B} : guardP false false A B m m' = A := by simp [guardP]
@[simp, simp ↓] theorem guardP_tf {A B : Prop} {m : Mk A} {m' : Mk B} : guardP true false A B m m' = B := by simp [guardP]
@[simp, simp ↓] theorem guardP_ft {A B : Prop} {m : Mk A} {m' : Mk B} : guardP false true A B m m' = B := by simp [guardP]
def gateP (x : AV) (b : Bool) (A B : Prop) (m : Mk A := .mk) (m' : Mk B := .mk) : Prop := gate x b A B
@[congr] theorem gate_congr {x x' : AV} {b : Bool} {A B : Prop} {m : Mk A} {m' : Mk B} (h : x = x') : gateP x b A B m m' = gateP x' b A B m m' := by rw [h]
@[simp, simp ↓] theorem gate_lit {t b : Bool} {A B : Prop} {m : Mk A} {m' : Mk B} : gateP (.lit (.bool t)) b A B m m' = guardP t b A B m m' := by
  apply propext
  constructor
  · rintro (⟨u, e, k⟩ | ⟨e, _⟩)
    · simp only [AV.lit.injEq, Value.bool.injEq] at e; subst e; exact k
    · simp at e
  · intro k; exact .inl ⟨t, rfl, k⟩
@[simp, simp ↓] theorem gate_skip {b : Bool} {A B : Prop} {m : Mk A} {m' : Mk B} : gateP (.lit (.tuple #[])) b A B m m' = B := by
  apply propext
  constructor
  · rintro (⟨u, e, k⟩ | ⟨_, k⟩)
    · simp at e
    · exact k
  · intro k; exact .inr ⟨rfl, k⟩
@[congr] theorem wp_congr {E : Env} {rd : Option Nat} {c : AC} {ρ : Rho} {H : Hp} {Q : Post} : wp E rd c ρ H Q = wp E rd c ρ H Q := rfl
@[simp] theorem ex_pair {α β : Type} {a : α} {b : β} {K : α → β → Prop} : (∃ v h, (a = v ∧ b = h) ∧ K v h) ↔ K a b := ⟨fun ⟨_, _, ⟨e, f⟩, k⟩ => by subst e; subst f; exact k, fun k => ⟨_, _, ⟨rfl, rfl⟩, k⟩⟩
@[simp] theorem ex_three {α β γ : Type} {a : α} {b : β} {c : γ} {K : α → β → γ → Prop} : (∃ v h u, (a = v ∧ b = h ∧ c = u) ∧ K v h u) ↔ K a b c := ⟨fun ⟨_, _, _, ⟨e, f, g⟩, k⟩ => by subst e; subst f; subst g; exact k, fun k => ⟨_, _, _, ⟨rfl, rfl, rfl⟩, k⟩⟩

section
variable {E : Env} {rd : Option Nat} {ρ : Rho} {H : Hp}

def seqP (E : Env) (rd : Option Nat) (b : AC) (Q : Post) : Post := fun x ρ' H' => match x with | .nrm => wp E rd b ρ' H' Q | x => Q x ρ' H'
@[simp ↓] theorem seqP_nrm {b : AC} {Q : Post} : seqP E rd b Q .nrm ρ H = wp E rd b ρ H Q := _root_.id rfl
@[simp ↓] theorem seqP_ret {b : AC} {Q : Post} : seqP E rd b Q .ret ρ H = Q .ret ρ H := _root_.id rfl
@[simp ↓] theorem seqP_exit {b : AC} {Q : Post} {i : Nat} : seqP E rd b Q (.exit i) ρ H = Q (.exit i) ρ H := _root_.id rfl
def blockP (id : Nat) (Q : Post) : Post := fun x ρ' H' => match x with | .exit i => if i = id then Q .nrm ρ' H' else Q (.exit i) ρ' H' | x => Q x ρ' H'
@[simp ↓] theorem blockP_nrm {id : Nat} {Q : Post} : blockP id Q .nrm ρ H = Q .nrm ρ H := _root_.id rfl
@[simp ↓] theorem blockP_ret {id : Nat} {Q : Post} : blockP id Q .ret ρ H = Q .ret ρ H := _root_.id rfl
@[simp ↓] theorem blockP_exit {id i : Nat} {Q : Post} : blockP id Q (.exit i) ρ H = if i = id then Q .nrm ρ H else Q (.exit i) ρ H := _root_.id rfl
/-- What a round owes. -/
def roundP (I : Nat → Rho → Hp → Prop) (n : Nat) (Q : Post) : Post := fun x ρ' H' => match x with | .nrm => ∃ m, m < n ∧ I m ρ' H' | x => Q x ρ' H'
@[simp ↓] theorem roundP_nrm {I : Nat → Rho → Hp → Prop} {n : Nat} {Q : Post} : roundP I n Q .nrm ρ H = ∃ m, m < n ∧ I m ρ H := _root_.id rfl
@[simp ↓] theorem roundP_ret {I : Nat → Rho → Hp → Prop} {n : Nat} {Q : Post} : roundP I n Q .ret ρ H = Q .ret ρ H := _root_.id rfl
@[simp ↓] theorem roundP_exit {I : Nat → Rho → Hp → Prop} {n i : Nat} {Q : Post} : roundP I n Q (.exit i) ρ H = Q (.exit i) ρ H := _root_.id rfl
/-- What another round owes. -/
def againP (E : Env) (rd : Option Nat) (b : AC) (Q : Post) : Post := fun x ρ' H' => match x with | .nrm => wp E rd (.loop b) ρ' H' Q | x => Q x ρ' H'
@[simp ↓] theorem againP_nrm {b : AC} {Q : Post} : againP E rd b Q .nrm ρ H = wp E rd (.loop b) ρ H Q := _root_.id rfl
@[simp ↓] theorem againP_ret {b : AC} {Q : Post} : againP E rd b Q .ret ρ H = Q .ret ρ H := _root_.id rfl
@[simp ↓] theorem againP_exit {b : AC} {Q : Post} {i : Nat} : againP E rd b Q (.exit i) ρ H = Q (.exit i) ρ H := _root_.id rfl
theorem wp_round {b : AC} {Q : Post} (I : Nat → Rho → Hp → Prop) {n : Nat} (h0 : I n ρ H) (hs : ∀ n ρ H, I n ρ H → wp E rd b ρ H (roundP I n Q)) : wp E rd (.loop b) ρ H Q := wp_loop I h0 hs

@[simp ↓] theorem wp_skip {Q : Post} : wp E rd .skip ρ H Q = Q .nrm ρ H := _root_.id rfl
@[simp ↓] theorem wp_ret {Q : Post} : wp E rd .ret ρ H Q = Q .ret ρ H := _root_.id rfl
@[simp ↓] theorem wp_exit {id : Nat} {Q : Post} : wp E rd (.exit id) ρ H Q = Q (.exit id) ρ H := _root_.id rfl
@[simp ↓] theorem wp_seq {a b : AC} {Q : Post} : wp E rd (.seq a b) ρ H Q = wp E rd a ρ H (seqP E rd b Q) := _root_.id rfl
@[simp ↓] theorem wp_block {id : Nat} {b : AC} {Q : Post} : wp E rd (.block id b) ρ H Q = wp E rd b ρ H (blockP id Q) := _root_.id rfl
@[simp ↓] theorem wp_cond {c : Opd} {a b : AC} {Q : Post} : wp E rd (.cond c a b) ρ H Q = bindB (evR ρ c) fun t => iteP t (wp E rd a ρ H Q) (wp E rd b ρ H Q) := _root_.id rfl

/-- A row of operations. -/
def wpL (E : Env) (l : List AOper) (ρ : Rho) (H : Hp) (Q : Rho → Hp → Prop) : Prop := wpO E (l.map fun o => (o, 0)) ρ H Q
def wpD (E : Env) (l : List AOper) (q : List Nat) (ρ : Rho) (H : Hp) (Q : Rho → Hp → Prop) : Prop := wpO E (l.zip q) ρ H Q
def wpE (E : Env) (R : List Nat) (l : List AOper) (q : List Nat) (ρ : Rho) (H : Hp) (Q : Rho → Hp → Prop) : Prop := wpK E R (l.zip q) ρ H Q
def wpQ (E : Env) (b : Bool) (l : List AOper) (q : List Nat) (ρ : Rho) (H : Hp) (Q : Rho → Hp → Prop) : Prop := if b = true then wpE E [] l q ρ H Q else wpD E l q ρ H Q
@[congr] theorem wpQ_congr {b b' : Bool} {l : List AOper} {q : List Nat} {ρ : Rho} {H : Hp} {Q : Rho → Hp → Prop} (h : b = b') : wpQ E b l q ρ H Q = wpQ E b' l q ρ H Q := by rw [h]
@[simp ↓] theorem wp_ops {l : List AOper} {Q : Post} : wp E rd (.ops l) ρ H Q = wpL E l ρ H (Q .nrm) := _root_.id rfl
@[simp ↓] theorem wp_dops {id : Nat} {l : List AOper} {q : List Nat} {df : List (Nat × Nat)} {Q : Post} : wp E rd (.dops id l q df) ρ H Q = andQ (difR ρ df = true) (wpQ E (q.contains 3) l q ρ H (Q .nrm)) := _root_.id rfl
@[simp ↓] theorem wpQ_false {l : List AOper} {q : List Nat} {Q : Rho → Hp → Prop} : wpQ E false l q ρ H Q = wpD E l q ρ H Q := _root_.id rfl
@[simp ↓] theorem wpQ_true {l : List AOper} {q : List Nat} {Q : Rho → Hp → Prop} : wpQ E true l q ρ H Q = wpE E [] l q ρ H Q := _root_.id rfl
@[simp ↓] theorem wpE_nil {R q : List Nat} {Q : Rho → Hp → Prop} : wpE E R [] q ρ H Q = Q ρ H := _root_.id rfl
theorem wpE_cons0 {R : List Nat} {d : Option Nat} {op : AOp} {r : List AOper} {q : Nat} {qs : List Nat} {Q : Rho → Hp → Prop} : wpE E R (⟨d, op, none⟩ :: r) (q :: qs) ρ H Q = ((q = 3 → noKill R (killR ⟨d, op, none⟩ ρ) = true) ∧ wpA E (lvQ q) op ρ H (fun v H' => wpE E (rdR ⟨d, op, none⟩ ρ ++ R) r qs (updO ρ d v) H' Q)) := _root_.id rfl
@[simp ↓] theorem wpE_load {R : List Nat} {d n : Option Nat} {a : Opd} {r : List AOper} {q : Nat} {qs : List Nat} {Q : Rho → Hp → Prop} : wpE E R (⟨d, .load n a, none⟩ :: r) (q :: qs) ρ H Q = wpA E (lvQ q) (.load n a) ρ H (fun v H' => wpE E (ridOf (evR ρ a) ++ R) r qs (updO ρ d v) H' Q) := by
  rw [wpE_cons0]
  have : noKill R (killR ⟨d, .load n a, none⟩ ρ) = true := rfl
  simp only [this, implies_true, true_and]
  rfl
@[simp ↓] theorem wpE_append {R : List Nat} {d : Option Nat} {e : TypeId} {sz b : Nat} {s x : Opd} {r : List AOper} {qs : List Nat} {Q : Rho → Hp → Prop} : wpE E R (⟨d, .append e sz b s x, none⟩ :: r) (3 :: qs) ρ H Q = andQ (noKill R (kid (evR ρ s)) = true) (wpA E 0 (.append e sz b s x) ρ H (fun v H' => wpE E R r qs (updO ρ d v) H' Q)) := by
  rw [wpE_cons0]
  unfold andQ
  simp only [forall_const]
  rfl
@[simp ↓] theorem wpE_store {R : List Nat} {d : Option Nat} {n : Nat} {a x : Opd} {r : List AOper} {qs : List Nat} {Q : Rho → Hp → Prop} : wpE E R (⟨d, .store n a x, none⟩ :: r) (3 :: qs) ρ H Q = andQ (noKill R (sid (evR ρ a)) = true) (wpA E 0 (.store n a x) ρ H (fun v H' => wpE E R r qs (updO ρ d v) H' Q)) := by
  rw [wpE_cons0]
  unfold andQ
  simp only [forall_const]
  rfl
@[simp ↓] theorem wpE_store0 {R : List Nat} {d : Option Nat} {n : Nat} {a x : Opd} {r : List AOper} {qs : List Nat} {Q : Rho → Hp → Prop} : wpE E R (⟨d, .store n a x, none⟩ :: r) (0 :: qs) ρ H Q = wpA E 0 (.store n a x) ρ H (fun v H' => wpE E R r qs (updO ρ d v) H' Q) := by
  rw [wpE_cons0]
  simp only [show ((0 : Nat) = 3) = False by simp, false_implies, true_and]
  rfl
theorem wpE_other {R : List Nat} {d : Option Nat} {op : AOp} {r : List AOper} {q : Nat} {qs : List Nat} {Q : Rho → Hp → Prop} (h1 : isLd op = false) (h2 : isKl op = false) : wpE E R (⟨d, op, none⟩ :: r) (q :: qs) ρ H Q = wpA E (lvQ q) op ρ H (fun v H' => wpE E R r qs (updO ρ d v) H' Q) := by
  rw [wpE_cons0]
  have hk : killR ⟨d, op, none⟩ ρ = none := by
    unfold killR
    split
    · rename_i e; simp only at e; rw [e] at h2; simp [isKl] at h2
    · rename_i e; simp only at e; rw [e] at h2; simp [isKl] at h2
    · rename_i e; simp only at e; rw [e] at h2; simp [isKl] at h2
    · rfl
  have hr : rdR ⟨d, op, none⟩ ρ = [] := by
    unfold rdR
    split
    · rename_i e; simp only at e; rw [e] at h1; simp [isLd] at h1
    · rfl
  have : noKill R (killR ⟨d, op, none⟩ ρ) = true := by rw [hk]; rfl
  simp only [this, implies_true, true_and, hr, List.nil_append]
@[simp] theorem lvQ_0 : lvQ 0 = 0 := _root_.id rfl
@[simp] theorem lvQ_1 : lvQ 1 = 1 := _root_.id rfl
@[simp] theorem lvQ_2 : lvQ 2 = 2 := _root_.id rfl
@[simp] theorem lvQ_3 : lvQ 3 = 0 := _root_.id rfl
attribute [simp] noKill kid ridOf sid
@[simp] theorem difR_nil : difR ρ [] = true := _root_.id rfl
@[simp ↓] theorem wpL_nil {Q : Rho → Hp → Prop} : wpL E [] ρ H Q = Q ρ H := _root_.id rfl
@[simp ↓] theorem wpL_cons {d : Option Nat} {op : AOp} {r : List AOper} {Q : Rho → Hp → Prop} : wpL E (⟨d, op, none⟩ :: r) ρ H Q = wpA E 0 op ρ H (fun v H' => wpL E r (updO ρ d v) H' Q) := _root_.id rfl
@[simp ↓] theorem wpL_guard {d : Option Nat} {op : AOp} {g : Nat} {b : Bool} {r : List AOper} {Q : Rho → Hp → Prop} : wpL E (⟨d, op, some (g, b)⟩ :: r) ρ H Q =
    gateP (ρ g) b (wpA E 0 op ρ H fun v H' => wpL E r (updO ρ d v) H' Q) (wpL E r (updO ρ d avU) H Q) := _root_.id rfl
@[simp ↓] theorem wpD_nil {q : List Nat} {Q : Rho → Hp → Prop} : wpD E [] q ρ H Q = Q ρ H := _root_.id rfl
@[simp ↓] theorem wpD_cons {d : Option Nat} {op : AOp} {r : List AOper} {q : Nat} {qs : List Nat} {Q : Rho → Hp → Prop} : wpD E (⟨d, op, none⟩ :: r) (q :: qs) ρ H Q = wpA E q op ρ H (fun v H' => wpD E r qs (updO ρ d v) H' Q) := _root_.id rfl
@[simp ↓] theorem wpD_guard {d : Option Nat} {op : AOp} {g : Nat} {b : Bool} {r : List AOper} {q : Nat} {qs : List Nat} {Q : Rho → Hp → Prop} : wpD E (⟨d, op, some (g, b)⟩ :: r) (q :: qs) ρ H Q =
    gateP (ρ g) b (wpA E q op ρ H fun v H' => wpD E r qs (updO ρ d v) H' Q) (wpD E r qs (updO ρ d avU) H Q) := _root_.id rfl

/-! ### Operations that write nothing -/
variable {q : Nat} {Q : AV → Hp → Prop}
theorem wpA_map {ao : AOp} {o : Option AV} (h : ∀ d, aopER E ρ { l := H.l, d := d } ao = o.map fun v => (v, none)) : wpA E q ao ρ H Q ↔ ∃ v, o = some v ∧ Q v H := by
  have h0 : aopER E ρ H ao = o.map fun v => (v, none) := h H.d
  have h1 := h none
  unfold wpA
  cases o with
  | none => split <;> simp [h0, h1]
  | some u =>
    simp only [Option.map_some] at h0 h1
    split
    · rw [h0]
      constructor
      · rintro ⟨v, h, e, k⟩; simp only [Option.some.injEq, Prod.mk.injEq] at e; obtain ⟨rfl, rfl⟩ := e; exact ⟨_, rfl, k⟩
      · rintro ⟨v, e, k⟩; simp only [Option.some.injEq] at e; subst e; exact ⟨_, _, rfl, k⟩
    · rw [h1]
      constructor
      · rintro ⟨v, h, e, k⟩; simp only [Option.some.injEq, Prod.mk.injEq] at e; obtain ⟨rfl, rfl⟩ := e; exact ⟨_, rfl, k⟩
      · rintro ⟨v, e, k⟩; simp only [Option.some.injEq] at e; subst e; exact ⟨_, _, rfl, k⟩
    · rw [h0]
      constructor
      · rintro ⟨v, e, k⟩; simp only [Option.some.injEq, Prod.mk.injEq, and_true] at e; subst e; exact ⟨_, rfl, k⟩
      · rintro ⟨v, e, k⟩; simp only [Option.some.injEq] at e; subst e; exact ⟨_, rfl, k⟩

theorem ex_map {α β : Type} {o : Option α} {f : α → β} {K : β → Prop} : (∃ v, o.map f = some v ∧ K v) ↔ ∃ b, o = some b ∧ K (f b) := by
  cases o <;> simp

theorem wpA_mov_iff {x : Opd} : wpA E q (.mov x) ρ H Q ↔ Q (evR ρ x) H := (wpA_map (o := some (evR ρ x)) (fun _ => rfl)).trans (by simp)
theorem wpA_pick_iff {c a b : Opd} : wpA E q (.pick c a b) ρ H Q ↔ ∃ t, evR ρ c = avBool t ∧ Q (if t = true then evR ρ a else evR ρ b) H := by
  refine (wpA_map (o := match evR ρ c with | .lit (.bool t) => some (if t = true then evR ρ a else evR ρ b) | _ => none) (fun d => ?_)).trans ?_
  · show (match evR ρ c with | .lit (.bool t) => some (if t = true then evR ρ a else evR ρ b, (none : Option Hp)) | _ => none) = _
    generalize evR ρ c = y
    split
    · rfl
    · first | rfl | (split <;> simp_all)
  · split
    · rename_i t ht
      simp [ht]
    · rename_i hn
      simp only [reduceCtorEq, false_and, exists_false, false_iff, not_exists, not_and]
      intro t ht
      exact absurd ht (hn t)
theorem wpA_bin_iff {op : BinOp} {x y : Opd} : wpA E q (.bin op x y) ρ H Q ↔ ∃ v, abin op (evR ρ x) (evR ρ y) = some v ∧ Q v H := wpA_map fun _ => rfl
theorem wpA_un_iff {op : UnOp} {x : Opd} : wpA E q (.un op x) ρ H Q ↔ ∃ v, aun op (evR ρ x) = some v ∧ Q v H := wpA_map fun _ => rfl
theorem wpA_eq_iff {neg : Bool} {d : EqD} {x y : Opd} : wpA E q (.eq neg d x y) ρ H Q ↔ ∃ b, aeq d (evR ρ x) (evR ρ y) = some b ∧ Q (avBool (if neg then !b else b)) H := by
  refine (wpA_map (o := (aeq d (evR ρ x) (evR ρ y)).map fun b => avBool (if neg then !b else b)) (fun _ => ?_)).trans ?_
  · show (aeq d (evR ρ x) (evR ρ y)).map (fun b => (avBool (if neg then !b else b), (none : Option Hp))) = _
    rw [Option.map_map]; rfl
  · exact ex_map
theorem wpA_load_iff {n : Option Nat} {a : Opd} : wpA E q (.load n a) ρ H Q ↔ ∃ v, aload H n (evR ρ a) = some v ∧ Q v H := wpA_map fun _ => rfl
theorem wpA_nilchk_iff {x : Opd} : wpA E q (.nilchk x) ρ H Q ↔ (evR ρ x).isRef = true ∧ Q (evR ρ x) H := by
  refine (wpA_map (o := if (evR ρ x).isRef then some (evR ρ x) else none) (fun _ => ?_)).trans ?_
  · show (if (evR ρ x).isRef then some (evR ρ x, (none : Option Hp)) else none) = _
    split <;> rfl
  · split <;> simp_all
theorem wpA_toInt_iff {k : IntKind} {x : Opd} : wpA E q (.conv (.toInt k) x) ρ H Q ↔ ∃ k' n, evR ρ x = .lit (.int k' n) ∧ Q (avInt k (k.wrap n)) H := by
  refine (wpA_map (o := match evR ρ x with | .lit (.int _ n) => some (avInt k (k.wrap n)) | _ => none) (fun _ => ?_)).trans ?_
  · show aconv _ (.toInt k) (evR ρ x) = _
    rw [aconv_toInt]
    generalize evR ρ x = y
    split
    · rfl
    · first | rfl | (split <;> simp_all)
  · split
    · rename_i k' n hx; rw [hx]; simp
    · rename_i hn
      simp only [reduceCtorEq, false_and, exists_false, false_iff, not_exists, not_and]
      intro k' n hx
      exact absurd hx (hn _ _)
theorem wpA_same_iff {x : Opd} : wpA E q (.conv .same x) ρ H Q ↔ ∃ s, evR ρ x = .lit (.string s) ∧ Q (.lit (.string s)) H := by
  refine (wpA_map (o := match evR ρ x with | .lit (.string s) => some (.lit (.string s)) | _ => none) (fun _ => ?_)).trans ?_
  · show aconv _ .same (evR ρ x) = _
    rw [aconv_same]
    generalize evR ρ x = y
    split
    · rfl
    · first | rfl | (split <;> simp_all)
  · split
    · rename_i n hx; rw [hx]; simp
    · rename_i hn
      simp only [reduceCtorEq, false_and, exists_false, false_iff, not_exists, not_and]
      intro n hx
      exact absurd hx (hn _)
theorem wpA_str_iff {x : Opd} : wpA E q (.conv .str x) ρ H Q ↔ ∃ es b, asElems H (evR ρ x) = some es ∧ bytesOf es = some b ∧ Q (avStr b) H := by
  refine (wpA_map (o := (asElems H (evR ρ x)).bind fun es => (bytesOf es).map avStr) (fun _ => ?_)).trans ?_
  · show aconv _ .str (evR ρ x) = _
    rw [aconv_str]
    show ((asElems H (evR ρ x)).bind fun es => (bytesOf es).bind fun b => some (avStr b, (none : Option Hp))) = _
    cases asElems H (evR ρ x) with
    | none => rfl
    | some es =>
      simp only [Option.bind_some]
      cases bytesOf es <;> rfl
  · cases asElems H (evR ρ x) with
    | none => simp
    | some es => simp only [Option.bind_some, Option.some.injEq, exists_and_left, exists_eq_left']; rw [ex_map]
theorem wpA_mkfn_iff {f : FuncId} {fs cs : List Opd} : wpA E q (.mkfn f fs cs) ρ H Q ↔ Q (.fn f (fs.map (evR ρ)) (cs.map (evR ρ))) H := (wpA_map (o := some (.fn f (fs.map (evR ρ)) (cs.map (evR ρ)))) (fun _ => rfl)).trans (by simp)
theorem wpA_build_iff {z : List AV} {ps : List (Nat × Nat × Opd)} : wpA E q (.build z ps) ρ H Q ↔ ∃ cs, fillA z (ps.map fun (o, s, x) => (o, s, evR ρ x)) = some cs ∧ Q (.agg cs) H := by
  refine (wpA_map (o := (fillA z (ps.map fun (o, s, x) => (o, s, evR ρ x))).map .agg) (fun _ => ?_)).trans ?_
  · show (fillA z (ps.map fun (o, s, x) => (o, s, evR ρ x))).map (fun cs => (AV.agg cs, (none : Option Hp))) = _
    rw [Option.map_map]; rfl
  · exact ex_map
theorem wpA_slstr_iff {x : Opd} {lo hi : Option Opd} : wpA E q (.slstr x lo hi) ρ H Q ↔ ∃ v, aslstr (evR ρ x) (lo.map (evR ρ)) (hi.map (evR ρ)) = some v ∧ Q v H := wpA_map fun _ => rfl
theorem wpA_slice_iff {sz : Nat} {x : Opd} {lo hi : Option Opd} : wpA E q (.slice sz x lo hi) ρ H Q ↔ ∃ v, aslice sz (evR ρ x) (lo.map (evR ρ)) (hi.map (evR ρ)) = some v ∧ Q v H := wpA_map fun _ => rfl
theorem wpA_faddr_iff {off : Nat} {x : Opd} : wpA E q (.faddr off x) ρ H Q ↔ ∃ v, afaddr off (evR ρ x) = some v ∧ Q v H := wpA_map fun _ => rfl
theorem wpA_field_iff {off : Nat} {n : Option Nat} {x : Opd} : wpA E q (.field off n x) ρ H Q ↔ ∃ v, afield off n (evR ρ x) = some v ∧ Q v H := wpA_map fun _ => rfl
theorem wpA_iaddr_iff {sz : Nat} {x i : Opd} : wpA E q (.iaddr sz x i) ρ H Q ↔ ∃ v, aiaddr sz (evR ρ x) (evR ρ i) = some v ∧ Q v H := wpA_map fun _ => rfl
theorem wpA_sidx_iff {x i : Opd} : wpA E q (.sidx x i) ρ H Q ↔ ∃ v, asidx (evR ρ x) (evR ρ i) = some v ∧ Q v H := wpA_map fun _ => rfl
def aproj (x : AV) (i : Nat) : Option AV := match x with | .tup xs => xs[i]? | .lit (.tuple xs) => (xs[i]?).map .lit | _ => none
@[simp] theorem aproj_tup {xs : List AV} {i : Nat} : aproj (.tup xs) i = xs[i]? := _root_.id rfl
theorem wpA_extract_iff {t : Opd} {i : Nat} : wpA E q (.extract t i) ρ H Q ↔ ∃ v, aproj (evR ρ t) i = some v ∧ Q v H := by
  refine wpA_map fun _ => ?_
  show (match evR ρ t with | .tup xs => (xs[i]?).map fun v => (v, (none : Option Hp)) | .lit (.tuple xs) => (xs[i]?).map fun v => (AV.lit v, none) | _ => none) = _
  generalize evR ρ t = y
  unfold aproj
  split
  · rfl
  · simp only [Option.map_map]; rfl
  · rfl
theorem wpA_len_iff {x : Opd} : wpA E q (.len x) ρ H Q ↔ ∃ n : Nat, asLen (evR ρ x) = some n ∧ Q (avInt .i64 (n : Int)) H := by
  refine (wpA_map (o := (asLen (evR ρ x)).map fun (n : Nat) => avInt .i64 (n : Int)) (fun _ => ?_)).trans ex_map
  show (asLen (evR ρ x)).map (fun (n : Nat) => (avInt .i64 (n : Int), (none : Option Hp))) = _
  rw [Option.map_map]; rfl
theorem wpA_lens_iff {x : Opd} : wpA E q (.lens x) ρ H Q ↔ ∃ s, evR ρ x = .lit (.string s) ∧ Q (avInt .i64 ((bl s).length : Int)) H := by
  refine (wpA_map (o := match evR ρ x with | .lit (.string s) => some (avInt .i64 ((bl s).length : Int)) | _ => none) (fun _ => ?_)).trans ?_
  · show (match evR ρ x with | .lit (.string s) => some (avInt .i64 ((bl s).length : Int), (none : Option Hp)) | _ => none) = _
    generalize evR ρ x = y
    split
    · rfl
    · first | rfl | (split <;> simp_all)
  · split
    · rename_i n hx; rw [hx]; simp
    · rename_i hn
      simp only [reduceCtorEq, false_and, exists_false, false_iff, not_exists, not_and]
      intro n hx
      exact absurd hx (hn _)
theorem wpA_lenm_iff {x : Opd} : wpA E q (.lenm x) ρ H Q ↔ ∃ v, aLenm H (evR ρ x) = some v ∧ Q v H := wpA_map fun _ => rfl
theorem wpA_lookup_iff {kd : KD} {z : AV} {m k : Opd} {ok : Bool} : wpA E q (.lookup kd z m k ok) ρ H Q ↔ ∃ v, ((asKey kd (evR ρ k)).bind fun k => aLookup H kd z ok k (evR ρ m)) = some v ∧ Q v H := by
  refine wpA_map fun _ => ?_
  show ((asKey kd (evR ρ k)).bind fun k => (aLookup H kd z ok k (evR ρ m)).map fun v => (v, (none : Option Hp))) = _
  cases asKey kd (evR ρ k) <;> rfl
theorem wpA_mnmx_iff {mx : Bool} {x : Opd} {xs : List Opd} : wpA E q (.mnmx mx (x :: xs)) ρ H Q ↔ ∃ v, mnmx mx (evR ρ x) (xs.map (evR ρ)) = some v ∧ Q v H := wpA_map fun _ => rfl

/-! ### Operations that write -/
theorem wpA_0 {ao : AOp} : wpA E 0 ao ρ H Q ↔ ∃ v h, aopER E ρ H ao = some (v, h) ∧ Q v (h.getD H) := Iff.rfl
@[simp] theorem callV_fn {f : FuncId} {fs cs args : List AV} : callV E (.fn f fs cs) args H = E.call f (fs ++ args ++ cs) H := _root_.id rfl
@[simp] theorem callV_yld {l : Nat} {args : List AV} : callV E (.yld l) args H = E.yld l args H := _root_.id rfl
theorem wpA_store_iff {n : Nat} {a x : Opd} : wpA E 0 (.store n a x) ρ H Q ↔ ∃ H', astore H n (evR ρ a) (evR ρ x) = some H' ∧ Q avU H' := by
  rw [wpA_0]
  show (∃ v h, (astore H n (evR ρ a) (evR ρ x)).map (fun H' => (avU, some H')) = some (v, h) ∧ Q v (h.getD H)) ↔ _
  cases astore H n (evR ρ a) (evR ρ x) <;> simp
theorem wpA_box_iff {t : TypeId} {x : Opd} : wpA E 0 (.box t x) ρ H Q ↔ (evR ρ x).good = true ∧ Q (.ptr H.l.length 0) (halloc H (.cells (evR ρ x).cells t)) := by
  rw [wpA_0]
  show (∃ v h, (if (evR ρ x).good then some (AV.ptr H.l.length 0, some (halloc H (.cells (evR ρ x).cells t))) else none) = some (v, h) ∧ Q v (h.getD H)) ↔ _
  split <;> simp_all
theorem wpA_new_iff {t : TypeId} {z : AV} : wpA E 0 (.new t z) ρ H Q ↔ z.good = true ∧ Q (.ptr H.l.length 0) (halloc H (.cells z.cells t)) := by
  rw [wpA_0]
  show (∃ v h, (if z.good then some (AV.ptr H.l.length 0, some (halloc H (.cells z.cells t))) else none) = some (v, h) ∧ Q v (h.getD H)) ↔ _
  split <;> simp_all
theorem wpA_mkmap_iff : wpA E 0 .mkmap ρ H Q ↔ Q (.map H.l.length) (halloc H (.map [] 0)) := by
  rw [wpA_0]
  show (∃ v h, some (AV.map H.l.length, some (halloc H (.map [] 0))) = some (v, h) ∧ Q v (h.getD H)) ↔ _
  simp
theorem wpA_append_iff {e : TypeId} {sz bytes : Nat} {s x : Opd} : wpA E 0 (.append e sz bytes s x) ρ H Q ↔ ∃ ys v h, asElems H (evR ρ x) = some ys ∧ appendOn H e sz bytes (evR ρ s) ys = some (v, h) ∧ Q v (h.getD H) := by
  rw [wpA_0]
  show (∃ v h, (asElems H (evR ρ x)).bind (appendOn H e sz bytes (evR ρ s)) = some (v, h) ∧ Q v (h.getD H)) ↔ _
  cases asElems H (evR ρ x) <;> simp
theorem wpA_appends_iff {e : TypeId} {sz bytes : Nat} {s x : Opd} : wpA E 0 (.appends e sz bytes s x) ρ H Q ↔ ∃ ys v h, srcStr (evR ρ x) = some ys ∧ appendOn H e sz bytes (evR ρ s) ys = some (v, h) ∧ Q v (h.getD H) := by
  rw [wpA_0]
  show (∃ v h, (srcStr (evR ρ x)).bind (appendOn H e sz bytes (evR ρ s)) = some (v, h) ∧ Q v (h.getD H)) ↔ _
  cases srcStr (evR ρ x) <;> simp
theorem wpA_bslice_iff {e : TypeId} {sz len : Nat} {lay : Option Nat} {z : List AV} {ps : List (Nat × Nat × Opd)} : wpA E 0 (.bslice e sz lay len z ps) ρ H Q ↔
    ∃ cs, fillA (repl len z) (ps.map fun (o, s, x) => (o, s, evR ρ x)) = some cs ∧ (chunk sz lay len cs).all (fun y => y.good && y.cells.length == sz && (lay.isSome || y.one)) = true ∧ Q (.ra sz H.l.length 0 len) (halloc H (.arr sz (chunk sz lay len cs) e)) := by
  rw [wpA_0]
  show (∃ v h, ((fillA (repl len z) (ps.map fun (o, s, x) => (o, s, evR ρ x))).bind fun cs =>
      if (chunk sz lay len cs).all (fun y => y.good && y.cells.length == sz && (lay.isSome || y.one)) then some (AV.ra sz H.l.length 0 len, some (halloc H (.arr sz (chunk sz lay len cs) e))) else none) = some (v, h) ∧ Q v (h.getD H)) ↔ _
  cases fillA (repl len z) (ps.map fun (o, s, x) => (o, s, evR ρ x)) with
  | none => simp
  | some cs =>
    simp only [Option.bind_some, Option.some.injEq, exists_eq_left']
    split
    · rename_i h; simp only [h, true_and, Option.some.injEq, Prod.mk.injEq, ex_pair, Option.getD_some]
    · rename_i h; simp only [h, false_and, reduceCtorEq, exists_false]
theorem wpA_mkslice_iff {e : TypeId} {sz bytes : Nat} {z : AV} {l c : Opd} : wpA E 0 (.mkslice e sz bytes z l c) ρ H Q ↔
    ∃ k k' n, evR ρ l = .lit (.int k n) ∧ evR ρ c = .lit (.int k' n) ∧ 0 ≤ n ∧ n.toNat * bytes ≤ roomMax ∧ z.good = true ∧ z.cells.length = sz ∧ Q (.ra sz H.l.length 0 n.toNat) (halloc H (.arr sz (List.replicate n.toNat z) e)) := by
  rw [wpA_0]
  show (∃ v h, (match evR ρ l, evR ρ c with
    | .lit (.int _ n), .lit (.int _ m) =>
      if 0 ≤ n ∧ n = m ∧ m.toNat * bytes ≤ roomMax ∧ z.good = true ∧ z.cells.length = sz then
        some (AV.ra sz H.l.length 0 n.toNat, some (halloc H (.arr sz (List.replicate n.toNat z) e)))
      else none
    | _, _ => none) = some (v, h) ∧ Q v (h.getD H)) ↔ _
  split
  · rename_i k n k' m h1 h2
    constructor
    · rintro ⟨v, h, h3, h4⟩
      split at h3
      · rename_i hc
        obtain ⟨c1, rfl, c2, c3, c4⟩ := hc
        simp only [Option.some.injEq, Prod.mk.injEq] at h3
        obtain ⟨rfl, rfl⟩ := h3
        exact ⟨k, k', n, h1, h2, c1, c2, c3, c4, h4⟩
      · simp at h3
    · rintro ⟨a, b, i, h3, h4, c1, c2, c3, c4, c5⟩
      rw [h1] at h3; rw [h2] at h4
      simp only [AV.lit.injEq, Value.int.injEq] at h3 h4
      obtain ⟨rfl, rfl⟩ := h3
      obtain ⟨rfl, rfl⟩ := h4
      exact ⟨_, _, if_pos ⟨c1, rfl, c2, c3, c4⟩, c5⟩
  · rename_i hn
    simp only [reduceCtorEq, false_and, exists_false, false_iff, not_exists, not_and]
    intro k k' n h1 h2
    exact absurd h2 (hn _ _ _ _ h1)
theorem wpA_mapupd_iff {kd : KD} {m k v : Opd} : wpA E 0 (.mapupd kd m k v) ρ H Q ↔ ∃ key H', asKey kd (evR ρ k) = some key ∧ aMapupd H kd key (evR ρ v) (evR ρ m) = some H' ∧ Q avU H' := by
  rw [wpA_0]
  show (∃ x h, ((asKey kd (evR ρ k)).bind fun k => (aMapupd H kd k (evR ρ v) (evR ρ m)).map fun H' => (avU, some H')) = some (x, h) ∧ Q x (h.getD H)) ↔ _
  cases asKey kd (evR ρ k) with
  | none => simp
  | some key => simp only [Option.bind_some]; cases hm : aMapupd H kd key (evR ρ v) (evR ρ m) <;> simp [hm]
theorem wpA_delete_iff {kd : KD} {m k : Opd} : wpA E 0 (.delete kd m k) ρ H Q ↔ ∃ key h, asKey kd (evR ρ k) = some key ∧ aDelete H kd key (evR ρ m) = some h ∧ Q avU (h.getD H) := by
  rw [wpA_0]
  show (∃ x h, ((asKey kd (evR ρ k)).bind fun k => (aDelete H kd k (evR ρ m)).map fun H' => (avU, H')) = some (x, h) ∧ Q x (h.getD H)) ↔ _
  cases asKey kd (evR ρ k) with
  | none => simp
  | some key => simp only [Option.bind_some]; cases hm : aDelete H kd key (evR ρ m) <;> simp [hm]
theorem wpA_clear_iff {sz : Nat} {z : AV} {x : Opd} : wpA E 0 (.clear sz z x) ρ H Q ↔ ∃ h, aClear H sz z (evR ρ x) = some h ∧ Q avU (h.getD H) := by
  rw [wpA_0]
  show (∃ v h, ((aClear H sz z (evR ρ x)).map fun H' => (avU, H')) = some (v, h) ∧ Q v (h.getD H)) ↔ _
  cases hm : aClear H sz z (evR ρ x) <;> simp [hm]
theorem wpA_bytes_iff {e : TypeId} {x : Opd} : wpA E 0 (.conv (.bytes e) x) ρ H Q ↔ ∃ s, evR ρ x = .lit (.string s) ∧ (bl s).length ≤ roomMax ∧ Q (.ra 1 H.l.length 0 (bl s).length) (halloc H (.arr 1 ((bl s).map avByte) e)) := by
  rw [wpA_0]
  show (∃ v h, aconv H (.bytes e) (evR ρ x) = some (v, h) ∧ Q v (h.getD H)) ↔ _
  by_cases hs : ∃ s, evR ρ x = .lit (.string s)
  · obtain ⟨s, hs⟩ := hs
    rw [hs]
    show (∃ v h, (if (bl s).length ≤ roomMax then some (AV.ra 1 H.l.length 0 (bl s).length, some (halloc H (.arr 1 ((bl s).map avByte) e))) else none) = some (v, h) ∧ Q v (h.getD H)) ↔ _
    split
    · simp_all
    · rename_i hn; simp [hn]
  · constructor
    · rintro ⟨v, h, h1, h2⟩
      unfold aconv at h1
      split at h1 <;> simp_all
    · rintro ⟨s, h1, _⟩
      exact absurd ⟨s, h1⟩ hs
/-! ### The same, by combinators -/
@[simp ↓] theorem wpA_mov {x : Opd} : wpA E q (.mov x) ρ H Q = Q (evR ρ x) H := propext wpA_mov_iff
@[simp ↓] theorem wpA_pick {c a b : Opd} : wpA E q (.pick c a b) ρ H Q = bindB (evR ρ c) fun t => Q (if t = true then evR ρ a else evR ρ b) H := propext wpA_pick_iff
@[simp ↓] theorem wpA_bin {op : BinOp} {x y : Opd} : wpA E q (.bin op x y) ρ H Q = bindO (abin op (evR ρ x) (evR ρ y)) fun v => Q v H := propext wpA_bin_iff
@[simp ↓] theorem wpA_un {op : UnOp} {x : Opd} : wpA E q (.un op x) ρ H Q = bindO (aun op (evR ρ x)) fun v => Q v H := propext wpA_un_iff
@[simp ↓] theorem wpA_eq {neg : Bool} {d : EqD} {x y : Opd} : wpA E q (.eq neg d x y) ρ H Q = bindO (aeq d (evR ρ x) (evR ρ y)) fun b => Q (avBool (if neg = true then !b else b)) H := propext wpA_eq_iff
@[simp ↓] theorem wpA_load {n : Option Nat} {a : Opd} : wpA E q (.load n a) ρ H Q = bindO (aload H n (evR ρ a)) fun v => Q v H := propext wpA_load_iff
@[simp ↓] theorem wpA_nilchk {x : Opd} : wpA E q (.nilchk x) ρ H Q = andQ ((evR ρ x).isRef = true) (Q (evR ρ x) H) := propext wpA_nilchk_iff
@[simp ↓] theorem wpA_toInt {k : IntKind} {x : Opd} : wpA E q (.conv (.toInt k) x) ρ H Q = bindI (evR ρ x) fun n => Q (avInt k (k.wrap n)) H := propext wpA_toInt_iff
@[simp ↓] theorem wpA_same {x : Opd} : wpA E q (.conv .same x) ρ H Q = bindS (evR ρ x) fun s => Q (.lit (.string s)) H := propext wpA_same_iff
@[simp ↓] theorem wpA_str {x : Opd} : wpA E q (.conv .str x) ρ H Q = bindO ((asElems H (evR ρ x)).bind bytesOf) fun b => Q (avStr b) H := by
  rw [propext wpA_str_iff]
  unfold bindO
  cases asElems H (evR ρ x) <;> simp
@[simp ↓] theorem wpA_mkfn {f : FuncId} {fs cs : List Opd} : wpA E q (.mkfn f fs cs) ρ H Q = Q (.fn f (fs.map (evR ρ)) (cs.map (evR ρ))) H := propext wpA_mkfn_iff
@[simp ↓] theorem wpA_build {z : List AV} {ps : List (Nat × Nat × Opd)} : wpA E q (.build z ps) ρ H Q = bindO (fillA z (ps.map fun (o, s, x) => (o, s, evR ρ x))) fun cs => Q (.agg cs) H := propext wpA_build_iff
@[simp ↓] theorem wpA_slstr {x : Opd} {lo hi : Option Opd} : wpA E q (.slstr x lo hi) ρ H Q = bindO (aslstr (evR ρ x) (lo.map (evR ρ)) (hi.map (evR ρ))) fun v => Q v H := propext wpA_slstr_iff
@[simp ↓] theorem wpA_slice {sz : Nat} {x : Opd} {lo hi : Option Opd} : wpA E q (.slice sz x lo hi) ρ H Q = bindO (aslice sz (evR ρ x) (lo.map (evR ρ)) (hi.map (evR ρ))) fun v => Q v H := propext wpA_slice_iff
@[simp ↓] theorem wpA_faddr {off : Nat} {x : Opd} : wpA E q (.faddr off x) ρ H Q = bindO (afaddr off (evR ρ x)) fun v => Q v H := propext wpA_faddr_iff
@[simp ↓] theorem wpA_field {off : Nat} {n : Option Nat} {x : Opd} : wpA E q (.field off n x) ρ H Q = bindO (afield off n (evR ρ x)) fun v => Q v H := propext wpA_field_iff
@[simp ↓] theorem wpA_iaddr {sz : Nat} {x i : Opd} : wpA E q (.iaddr sz x i) ρ H Q = bindO (aiaddr sz (evR ρ x) (evR ρ i)) fun v => Q v H := propext wpA_iaddr_iff
@[simp ↓] theorem wpA_sidx {x i : Opd} : wpA E q (.sidx x i) ρ H Q = bindO (asidx (evR ρ x) (evR ρ i)) fun v => Q v H := propext wpA_sidx_iff
@[simp ↓] theorem wpA_extract {t : Opd} {i : Nat} : wpA E q (.extract t i) ρ H Q = bindO (aproj (evR ρ t) i) fun v => Q v H := propext wpA_extract_iff
@[simp ↓] theorem wpA_len {x : Opd} : wpA E q (.len x) ρ H Q = bindO (asLen (evR ρ x)) fun n => Q (avInt .i64 (n : Int)) H := propext wpA_len_iff
@[simp ↓] theorem wpA_lens {x : Opd} : wpA E q (.lens x) ρ H Q = bindS (evR ρ x) fun s => Q (avInt .i64 ((bl s).length : Int)) H := propext wpA_lens_iff
@[simp ↓] theorem wpA_lenm {x : Opd} : wpA E q (.lenm x) ρ H Q = bindO (aLenm H (evR ρ x)) fun v => Q v H := propext wpA_lenm_iff
@[simp ↓] theorem wpA_lookup {kd : KD} {z : AV} {m k : Opd} {ok : Bool} : wpA E q (.lookup kd z m k ok) ρ H Q = bindO (asKey kd (evR ρ k)) fun k => bindO (aLookup H kd z ok k (evR ρ m)) fun v => Q v H := by
  rw [propext wpA_lookup_iff]
  unfold bindO
  cases asKey kd (evR ρ k) <;> simp
@[simp ↓] theorem wpA_mnmx {mx : Bool} {x : Opd} {xs : List Opd} : wpA E q (.mnmx mx (x :: xs)) ρ H Q = bindO (mnmx mx (evR ρ x) (xs.map (evR ρ))) fun v => Q v H := propext wpA_mnmx_iff
@[simp ↓] theorem wpA_call {f : Opd} {args : List Opd} : wpA E 0 (.call f args) ρ H Q = bindH (callV E (evR ρ f) (args.map (evR ρ)) H) H Q := _root_.id rfl
@[simp ↓] theorem wpA_call1 {f : Opd} {args : List Opd} : wpA E 1 (.call f args) ρ H Q = bindH1 (callV E (evR ρ f) (args.map (evR ρ)) { l := H.l, d := none }) H Q := _root_.id rfl
@[simp ↓] theorem wpA_call2 {f : Opd} {args : List Opd} : wpA E 2 (.call f args) ρ H Q = bindH2 (callV E (evR ρ f) (args.map (evR ρ)) H) H Q := _root_.id rfl
@[simp ↓] theorem wpA_store {n : Nat} {a x : Opd} : wpA E 0 (.store n a x) ρ H Q = bindO (astore H n (evR ρ a) (evR ρ x)) fun H' => Q avU H' := propext wpA_store_iff
@[simp ↓] theorem wpA_box {t : TypeId} {x : Opd} : wpA E 0 (.box t x) ρ H Q = andQ ((evR ρ x).good = true) (Q (.ptr H.l.length 0) (halloc H (.cells (evR ρ x).cells t))) := propext wpA_box_iff
@[simp ↓] theorem wpA_new {t : TypeId} {z : AV} : wpA E 0 (.new t z) ρ H Q = andQ (z.good = true) (Q (.ptr H.l.length 0) (halloc H (.cells z.cells t))) := propext wpA_new_iff
@[simp ↓] theorem wpA_mkmap : wpA E 0 .mkmap ρ H Q = Q (.map H.l.length) (halloc H (.map [] 0)) := propext wpA_mkmap_iff
@[simp ↓] theorem wpA_append {e : TypeId} {sz bytes : Nat} {s x : Opd} : wpA E 0 (.append e sz bytes s x) ρ H Q = bindO (asElems H (evR ρ x)) fun ys => bindH (appendOn H e sz bytes (evR ρ s) ys) H Q := by
  rw [propext wpA_append_iff]
  unfold bindO bindH
  cases asElems H (evR ρ x) <;> simp
@[simp ↓] theorem wpA_appends {e : TypeId} {sz bytes : Nat} {s x : Opd} : wpA E 0 (.appends e sz bytes s x) ρ H Q = bindO (srcStr (evR ρ x)) fun ys => bindH (appendOn H e sz bytes (evR ρ s) ys) H Q := by
  rw [propext wpA_appends_iff]
  unfold bindO bindH
  cases srcStr (evR ρ x) <;> simp
@[simp ↓] theorem wpA_bslice {e : TypeId} {sz len : Nat} {lay : Option Nat} {z : List AV} {ps : List (Nat × Nat × Opd)} : wpA E 0 (.bslice e sz lay len z ps) ρ H Q =
    bindO (fillA (repl len z) (ps.map fun (o, s, x) => (o, s, evR ρ x))) fun cs => andQ ((chunk sz lay len cs).all (fun y => y.good && y.cells.length == sz && (lay.isSome || y.one)) = true) (Q (.ra sz H.l.length 0 len) (halloc H (.arr sz (chunk sz lay len cs) e))) := propext wpA_bslice_iff
@[simp ↓] theorem wpA_mkslice {e : TypeId} {sz bytes : Nat} {z : AV} {l c : Opd} : wpA E 0 (.mkslice e sz bytes z l c) ρ H Q =
    bindI (evR ρ l) fun n => bindI (evR ρ c) fun m => andQ (n = m) (andQ (0 ≤ n) (andQ (n.toNat * bytes ≤ roomMax) (andQ (z.good = true) (andQ (z.cells.length = sz) (Q (.ra sz H.l.length 0 n.toNat) (halloc H (.arr sz (List.replicate n.toNat z) e))))))) := by
  rw [propext wpA_mkslice_iff]
  unfold bindI andQ
  apply propext
  constructor
  · rintro ⟨k, k', n, h1, h2, h3⟩; exact ⟨k, n, h1, k', n, h2, rfl, h3⟩
  · rintro ⟨k, n, h1, k', m, h2, rfl, h3⟩; exact ⟨k, k', n, h1, h2, h3⟩
/-- An object laid by itself in a drawn region: as elsewhere. -/
theorem wpA_one_zero {ao : AOp} (h : (∀ d, aopER E ρ { l := H.l, d := d } ao = none) ∨ ∃ v ob, ∀ d, aopER E ρ { l := H.l, d := d } ao = some (v, some (halloc { l := H.l, d := d } ob))) : wpA E 1 ao ρ H Q = wpA E 0 ao ρ H Q := by
  apply propext
  have hH : aopER E ρ H ao = aopER E ρ { l := H.l, d := H.d } ao := _root_.id rfl
  rcases h with h | ⟨v, ob, h⟩
  · constructor
    · rintro ⟨u, g, e, _⟩; rw [h] at e; simp at e
    · rintro ⟨u, g, e, _⟩; rw [hH, h] at e; simp at e
  · constructor
    · rintro ⟨u, g, e, k⟩
      rw [h] at e
      simp only [Option.some.injEq, Prod.mk.injEq] at e
      obtain ⟨rfl, rfl⟩ := e
      exact ⟨v, some (halloc { l := H.l, d := H.d } ob), by rw [hH]; exact h _, k.2⟩
    · rintro ⟨u, g, e, k⟩
      rw [hH, h] at e
      simp only [Option.some.injEq, Prod.mk.injEq] at e
      obtain ⟨rfl, rfl⟩ := e
      exact ⟨v, _, h none, _root_.id rfl, k⟩
@[simp ↓] theorem wpA_new1 {t : TypeId} {z : AV} : wpA E 1 (.new t z) ρ H Q = andQ (z.good = true) (Q (.ptr H.l.length 0) (halloc H (.cells z.cells t))) := by
  rw [wpA_one_zero, wpA_new]
  by_cases hz : z.good = true
  · exact .inr ⟨.ptr H.l.length 0, .cells z.cells t, fun d => if_pos hz⟩
  · exact .inl fun d => if_neg hz
@[simp ↓] theorem wpA_mkmap1 : wpA E 1 .mkmap ρ H Q = Q (.map H.l.length) (halloc H (.map [] 0)) := by
  rw [wpA_one_zero, wpA_mkmap]
  exact .inr ⟨.map H.l.length, .map [] 0, fun d => _root_.id rfl⟩
@[simp ↓] theorem wpA_mkslice1 {e : TypeId} {sz bytes : Nat} {z : AV} {l c : Opd} : wpA E 1 (.mkslice e sz bytes z l c) ρ H Q =
    bindI (evR ρ l) fun n => bindI (evR ρ c) fun m => andQ (n = m) (andQ (0 ≤ n) (andQ (n.toNat * bytes ≤ roomMax) (andQ (z.good = true) (andQ (z.cells.length = sz) (Q (.ra sz H.l.length 0 n.toNat) (halloc H (.arr sz (List.replicate n.toNat z) e))))))) := by
  rw [wpA_one_zero, wpA_mkslice]
  have hd : ∀ d, aopER E ρ { l := H.l, d := d } (.mkslice e sz bytes z l c) = (match evR ρ l, evR ρ c with
    | .lit (.int _ n), .lit (.int _ m) =>
      if 0 ≤ n ∧ n = m ∧ m.toNat * bytes ≤ roomMax ∧ z.good = true ∧ z.cells.length = sz then
        some (AV.ra sz H.l.length 0 n.toNat, some (halloc { l := H.l, d := d } (.arr sz (List.replicate n.toNat z) e)))
      else none
    | _, _ => none) := fun d => _root_.id rfl
  simp only [hd]
  split
  · rename_i k n k' m h1 h2
    by_cases hc : 0 ≤ n ∧ n = m ∧ m.toNat * bytes ≤ roomMax ∧ z.good = true ∧ z.cells.length = sz
    · exact .inr ⟨_, _, fun d => if_pos hc⟩
    · exact .inl fun d => if_neg hc
  · exact .inl fun d => _root_.id rfl
@[simp ↓] theorem wpA_mapupd {kd : KD} {m k v : Opd} : wpA E 0 (.mapupd kd m k v) ρ H Q = bindO (asKey kd (evR ρ k)) fun key => bindO (aMapupd H kd key (evR ρ v) (evR ρ m)) fun H' => Q avU H' := by
  rw [propext wpA_mapupd_iff]
  unfold bindO
  cases asKey kd (evR ρ k) <;> simp
@[simp ↓] theorem wpA_delete {kd : KD} {m k : Opd} : wpA E 0 (.delete kd m k) ρ H Q = bindO (asKey kd (evR ρ k)) fun key => bindO (aDelete H kd key (evR ρ m)) fun h => Q avU (h.getD H) := by
  rw [propext wpA_delete_iff]
  unfold bindO
  cases asKey kd (evR ρ k) <;> simp
@[simp ↓] theorem wpA_clear {sz : Nat} {z : AV} {x : Opd} : wpA E 0 (.clear sz z x) ρ H Q = bindO (aClear H sz z (evR ρ x)) fun h => Q avU (h.getD H) := propext wpA_clear_iff
@[simp ↓] theorem wpA_bytes {e : TypeId} {x : Opd} : wpA E 0 (.conv (.bytes e) x) ρ H Q = bindS (evR ρ x) fun s => andQ ((bl s).length ≤ roomMax) (Q (.ra 1 H.l.length 0 (bl s).length) (halloc H (.arr 1 ((bl s).map avByte) e))) := propext wpA_bytes_iff
@[simp ↓] theorem wpA_mark {x : Opd} : wpA E 0 (.conv .mark x) ρ H Q = bindH (aconv H .mark (evR ρ x)) H Q := _root_.id rfl

/-! ### Numbers, texts, truths -/
section
variable {k : IntKind} {a b : Int}
@[simp] theorem abin_add : abin .add (.lit (.int k a)) (.lit (.int k b)) = some (avInt k (k.wrap (a + b))) := by simp [abin, abinI]
@[simp] theorem abin_sub : abin .sub (.lit (.int k a)) (.lit (.int k b)) = some (avInt k (k.wrap (a - b))) := by simp [abin, abinI]
@[simp] theorem abin_mul : abin .mul (.lit (.int k a)) (.lit (.int k b)) = some (avInt k (k.wrap (a * b))) := by simp [abin, abinI]
@[simp] theorem abin_lss : abin .lss (.lit (.int k a)) (.lit (.int k b)) = some (avBool (decide (a < b))) := by simp [abin, abinI]
@[simp] theorem abin_leq : abin .leq (.lit (.int k a)) (.lit (.int k b)) = some (avBool (decide (a ≤ b))) := by simp [abin, abinI]
@[simp] theorem abin_gtr : abin .gtr (.lit (.int k a)) (.lit (.int k b)) = some (avBool (decide (b < a))) := by simp [abin, abinI]
@[simp] theorem abin_geq : abin .geq (.lit (.int k a)) (.lit (.int k b)) = some (avBool (decide (b ≤ a))) := by simp [abin, abinI]
@[simp] theorem abin_quo (h : b ≠ 0) : abin .quo (.lit (.int k a)) (.lit (.int k b)) = some (avInt k (k.wrap (a.tdiv b))) := by simp [abin, abinI, h]
@[simp] theorem abin_rem (h : b ≠ 0) : abin .rem (.lit (.int k a)) (.lit (.int k b)) = some (avInt k (a.tmod b)) := by simp [abin, abinI, h]
/-- Operations on bits, by name. -/
def bAnd (k : IntKind) (a b : Int) : Int := k.wrap (BitVec.ofInt k.bits a &&& BitVec.ofInt k.bits b).toNat
def bOr (k : IntKind) (a b : Int) : Int := k.wrap (BitVec.ofInt k.bits a ||| BitVec.ofInt k.bits b).toNat
def bXor (k : IntKind) (a b : Int) : Int := k.wrap (BitVec.ofInt k.bits a ^^^ BitVec.ofInt k.bits b).toNat
def bShl (k : IntKind) (a n : Int) : Int := k.wrap (a * 2 ^ (min n.toNat k.bits))
def bShr (k : IntKind) (a n : Int) : Int := a.fdiv (2 ^ (min n.toNat k.bits))
@[simp] theorem abin_shl {k' : IntKind} (h : 0 ≤ b) : abin .shl (.lit (.int k a)) (.lit (.int k' b)) = some (avInt k (bShl k a b)) := by
  have : ¬ b < 0 := by omega
  simp [abin, ashift, this, bShl]
@[simp] theorem abin_shr {k' : IntKind} (h : 0 ≤ b) : abin .shr (.lit (.int k a)) (.lit (.int k' b)) = some (avInt k (bShr k a b)) := by
  have : ¬ b < 0 := by omega
  simp [abin, ashift, this, bShr]
@[simp] theorem abin_and : abin .and (.lit (.int k a)) (.lit (.int k b)) = some (avInt k (bAnd k a b)) := by simp [abin, abinI, ibits, bAnd]
@[simp] theorem abin_or : abin .or (.lit (.int k a)) (.lit (.int k b)) = some (avInt k (bOr k a b)) := by simp [abin, abinI, ibits, bOr]
@[simp] theorem abin_xor : abin .xor (.lit (.int k a)) (.lit (.int k b)) = some (avInt k (bXor k a b)) := by simp [abin, abinI, ibits, bXor]
@[simp] theorem aun_not {t : Bool} : aun .not (avBool t) = some (avBool (!t)) := _root_.id rfl
@[simp] theorem aun_neg : aun .neg (.lit (.int k a)) = some (avInt k (k.wrap (0 - a))) := _root_.id rfl
@[simp] theorem aeq_int : aeq .pint (.lit (.int k a)) (.lit (.int k b)) = some (decide (a = b)) := by simp only [aeq, aprim, eqI, if_true, Option.some.injEq]; rfl
@[simp] theorem aeq_bool {s t : Bool} : aeq .pbool (avBool s) (avBool t) = some (decide (s = t)) := by simp only [aeq, aprim, eqB, Option.some.injEq]; cases s <;> cases t <;> rfl
@[simp] theorem aeq_str {s t : ByteArray} : aeq .pstr (.lit (.string s)) (.lit (.string t)) = some (decide (bl s = bl t)) := by simp only [aeq, aprim, eqSt, Option.some.injEq]; rw [Bool.eq_iff_iff]; simp
theorem abin_strAdd {s t : ByteArray} (h : (bl s).length + (bl t).length < 4611686018427387904) : abin .add (.lit (.string s)) (.lit (.string t)) = some (avStr (bl s ++ bl t)) := by simp [abin, abinS, h]
@[simp] theorem abin_strLss {s t : ByteArray} : abin .lss (.lit (.string s)) (.lit (.string t)) = some (avBool (Op.bytesLess (bl s) (bl t))) := by simp [abin, abinS]
@[simp] theorem abin_strLeq {s t : ByteArray} : abin .leq (.lit (.string s)) (.lit (.string t)) = some (avBool (Op.bytesLess (bl s) (bl t) || bl s == bl t)) := by simp [abin, abinS]
@[simp] theorem abin_strGeq {s t : ByteArray} : abin .geq (.lit (.string s)) (.lit (.string t)) = some (avBool (!Op.bytesLess (bl s) (bl t))) := by simp [abin, abinS]
theorem wrap64 (h1 : -9223372036854775808 ≤ a) (h2 : a ≤ 9223372036854775807) : IntKind.wrap .i64 a = a := by
  simp only [IntKind.wrap, IntKind.bits, IntKind.signed]
  simp
  omega
end
end
end Go.Proofs.Eng
/- The engine, part AD: calls of functions that a table holds; the heap's own laws. -/
set_option linter.unusedVariables false
set_option linter.unusedSimpArgs false
namespace Go.Proofs.Eng
open Go Go.RowKit

/-- A table holds a function, and no summary stands before it. -/
structure Has (Γ : Sums) (A : Tab) (f : FuncId) (fn : AFunc) : Prop where
  tab : A f = some fn
  sum : ∀ args H, Γ f args H = none

section
variable {Γ : Sums} {A : Tab} {f : FuncId} {fn : AFunc} {args : List AV} {H : Hp}

theorem Has.call (h : Has Γ A f fn) {r : AV × Option Hp} (hd : okF fn args.length = true) (hw : wp (lim Γ A) none fn.body (rho0 args) { l := H.l, d := none } (Ends fn.results fn.frz H fun p => p = r)) : (lim Γ A).call f args H = some r := by
  obtain ⟨q, e, rfl⟩ := call_of_wp (h.sum args H) h.tab hd hw
  exact e
theorem Has.callP (h : Has Γ A f fn) {R : AV × Option Hp → Prop} (hd : okF fn args.length = true) (hw : wp (lim Γ A) none fn.body (rho0 args) { l := H.l, d := none } (Ends fn.results fn.frz H R)) : ∃ r, (lim Γ A).call f args H = some r ∧ R r := call_of_wp (h.sum args H) h.tab hd hw
end

@[simp ↓] theorem Ends_nrm {rs : List (Sum Nat (Nat × Option Nat))} {z : Bool} {H : Hp} {r : AV × Option Hp → Prop} {ρ : Rho} {H' : Hp} : Ends rs z H r .nrm ρ H' = bindO (resR rs ρ H') fun v => r (settleZ z H v H') := by simp [Ends, bindO]
@[simp ↓] theorem Ends_ret {rs : List (Sum Nat (Nat × Option Nat))} {z : Bool} {H : Hp} {r : AV × Option Hp → Prop} {ρ : Rho} {H' : Hp} : Ends rs z H r .ret ρ H' = bindO (resR rs ρ H') fun v => r (settleZ z H v H') := by simp [Ends, bindO]
@[simp ↓] theorem Ends_exit {rs : List (Sum Nat (Nat × Option Nat))} {z : Bool} {H : Hp} {r : AV × Option Hp → Prop} {ρ : Rho} {H' : Hp} {i : Nat} : Ends rs z H r (.exit i) ρ H' = False := by simp [Ends]

@[simp] theorem resR_one {t : Nat} {ρ : Rho} {H : Hp} : resR [.inl t] ρ H = some (ρ t) := _root_.id rfl
@[simp] theorem resR_two {t u : Nat} {ρ : Rho} {H : Hp} : resR [.inl t, .inl u] ρ H = some (.tup [ρ t, ρ u]) := _root_.id rfl
@[simp] theorem resR_three {t u v : Nat} {ρ : Rho} {H : Hp} : resR [.inl t, .inl u, .inl v] ρ H = some (.tup [ρ t, ρ u, ρ v]) := _root_.id rfl
@[simp] theorem resR_inr {t : Nat} {l : Option Nat} {ρ : Rho} {H : Hp} : resR [.inr (t, l)] ρ H = aload H l (ρ t) := by
  simp [resR, resOneR, List.mapM_cons]; cases aload H l (ρ t) <;> rfl
@[simp] theorem resR_inr2 {t u : Nat} {l m : Option Nat} {ρ : Rho} {H : Hp} : resR [.inr (t, l), .inr (u, m)] ρ H = (aload H l (ρ t)).bind fun a => (aload H m (ρ u)).map fun b => .tup [a, b] := by
  simp [resR, resOneR, List.mapM_cons]
  cases aload H l (ρ t) with
  | none => rfl
  | some a => cases aload H m (ρ u) <;> rfl
@[simp] theorem resR_zero {ρ : Rho} {H : Hp} : resR [] ρ H = some (.tup []) := _root_.id rfl

@[simp] theorem rho0_zero {x : AV} {xs : List AV} : rho0 (x :: xs) 0 = x := _root_.id rfl
@[simp] theorem rho0_succ {x : AV} {xs : List AV} {n : Nat} : rho0 (x :: xs) (n + 1) = rho0 xs n := _root_.id rfl
@[simp] theorem rho0_one {x y : AV} {xs : List AV} : rho0 (x :: y :: xs) 1 = y := _root_.id rfl
@[simp] theorem rho0_two {x y z : AV} {xs : List AV} : rho0 (x :: y :: z :: xs) 2 = z := _root_.id rfl

@[simp] theorem keeps_fresh {H : Hp} : keeps H { l := H.l, d := none } = true := _root_.id rfl
@[simp] theorem settle_fresh {H : Hp} {v : AV} : settle H v { l := H.l, d := none } = if v.under H.l.length = true then (v, none) else (v, some { l := H.l, d := dminO H.d none }) := by simp [settle]
@[simp] theorem settleZ_false {H H' : Hp} {v : AV} : settleZ false H v H' = settle H v H' := _root_.id rfl
attribute [simp ↓] upd_at
attribute [simp] AV.under AV.unders

end Go.Proofs.Eng
/- The engine, part AE: the heap's laws; what a call owns; rows that grow. -/
set_option linter.unusedVariables false
set_option linter.unusedSimpArgs false
namespace Go.Proofs.Eng
open Go Go.RowKit

/-! ### The heap -/
theorem hget_ge {H : Hp} {i : Nat} (h : H.l.length ≤ i) : hget H i = none := by
  unfold hget; rw [List.getElem?_eq_none h]; rfl
theorem hget_lt {H : Hp} {i : Nat} {o : AObj} (h : hget H i = some o) : i < H.l.length := by
  rcases Nat.lt_or_ge i H.l.length with k | k
  · exact k
  · rw [hget_ge k] at h; simp at h
@[simp] theorem hget_halloc {H : Hp} {o : AObj} {i : Nat} : hget (halloc H o) i = if i = H.l.length then some o else hget H i := by
  unfold hget halloc
  by_cases h : i = H.l.length
  · subst h; simp
  · rw [if_neg h]
    simp only []
    rcases Nat.lt_or_ge i H.l.length with k | k
    · rw [List.getElem?_append_left k]
    · rw [List.getElem?_eq_none (by simp; omega), List.getElem?_eq_none k]
@[simp] theorem hget_hset {H : Hp} {o : Option AObj} {i j : Nat} : hget (hset H j o) i = if i = j then (if j < H.l.length then o else none) else hget H i := by
  unfold hget hset
  simp only [List.getElem?_set]
  by_cases h : i = j
  · subst h
    by_cases k : i < H.l.length <;> simp [k]
  · simp [h, Ne.symm h]
@[simp] theorem halloc_len {H : Hp} {o : AObj} : (halloc H o).l.length = H.l.length + 1 := by simp [halloc]
@[simp] theorem hset_len {H : Hp} {o : Option AObj} {i : Nat} : (hset H i o).l.length = H.l.length := by simp [hset]
@[simp] theorem halloc_d {H : Hp} {o : AObj} : (halloc H o).d = H.d := rfl
@[simp] theorem hset_d {H : Hp} {o : Option AObj} {i : Nat} : (hset H i o).d = dmin H.d i := rfl
@[simp] theorem dmin_none {n : Nat} : dmin none n = some n := rfl
@[simp] theorem dmin_some' {m n : Nat} : dmin (some m) n = some (min m n) := rfl
@[simp] theorem dminO_none {d : Option Nat} : dminO d none = d := rfl
@[simp] theorem dminO_some {d : Option Nat} {n : Nat} : dminO d (some n) = dmin d n := rfl
@[simp] theorem hget_same_l {l : List (Option AObj)} {d : Option Nat} {i : Nat} {H : Hp} (h : H.l = l) : hget { l := l, d := d } i = hget H i := by subst h; rfl
theorem hget_l (H : Hp) (d : Option Nat) (i : Nat) : hget { l := H.l, d := d } i = hget H i := rfl

theorem settle_keeps {H H' : Hp} {v : AV} (hk : keeps H H' = true) (hu : v.under H.l.length = true) : settle H v H' = (v, none) := by simp [settle, hk, hu]
@[simp] theorem settle_fst {H H' : Hp} {v : AV} : (settle H v H').1 = v := by unfold settle; split <;> rfl
theorem settle_some {H H' : Hp} {v : AV} (hu : v.under H.l.length = false) : settle H v H' = (v, some { l := H'.l, d := dminO H.d H'.d }) := by simp [settle, hu]
theorem settle_wrote {H H' : Hp} {v : AV} (h : ∃ m, H'.d = some m ∧ m < H.l.length) : settle H v H' = (v, some { l := H'.l, d := dminO H.d H'.d }) := by
  obtain ⟨m, h1, h2⟩ := h
  have : keeps H H' = false := by simp [keeps, h1]; omega
  simp [settle, this]
theorem settleZ_frz {H H' : Hp} {v u : AV} (hk : keeps H H' = true) (hf : frz H'.l H.l.length 16 v = some u) : settleZ true H v H' = (u, none) := by simp [settleZ, hk, hf]

section
variable {n : Nat}
@[simp] theorem ne_2 : (n = n + 1 + 1) = False := by apply propext; constructor; (intro h; omega); exact False.elim
@[simp] theorem ne_3 : (n = n + 1 + 1 + 1) = False := by apply propext; constructor; (intro h; omega); exact False.elim
@[simp] theorem ne_4 : (n = n + 1 + 1 + 1 + 1) = False := by apply propext; constructor; (intro h; omega); exact False.elim
@[simp] theorem ne_5 : (n = n + 1 + 1 + 1 + 1 + 1) = False := by apply propext; constructor; (intro h; omega); exact False.elim
@[simp] theorem ne_6 : (n = n + 1 + 1 + 1 + 1 + 1 + 1) = False := by apply propext; constructor; (intro h; omega); exact False.elim
@[simp] theorem ne_2' : (n + 1 + 1 = n) = False := by apply propext; constructor; (intro h; omega); exact False.elim
@[simp] theorem ne_3' : (n + 1 + 1 + 1 = n) = False := by apply propext; constructor; (intro h; omega); exact False.elim
@[simp] theorem ne_4' : (n + 1 + 1 + 1 + 1 = n) = False := by apply propext; constructor; (intro h; omega); exact False.elim
@[simp] theorem ne_5' : (n + 1 + 1 + 1 + 1 + 1 = n) = False := by apply propext; constructor; (intro h; omega); exact False.elim
@[simp] theorem ne_6' : (n + 1 + 1 + 1 + 1 + 1 + 1 = n) = False := by apply propext; constructor; (intro h; omega); exact False.elim
@[simp] theorem lt_2 : (n < n + 1 + 1) = True := by apply propext; constructor; (intro; trivial); (intro; omega)
@[simp] theorem lt_3 : (n < n + 1 + 1 + 1) = True := by apply propext; constructor; (intro; trivial); (intro; omega)
@[simp] theorem lt_4 : (n < n + 1 + 1 + 1 + 1) = True := by apply propext; constructor; (intro; trivial); (intro; omega)
@[simp] theorem lt_5 : (n < n + 1 + 1 + 1 + 1 + 1) = True := by apply propext; constructor; (intro; trivial); (intro; omega)
@[simp] theorem lt_6 : (n < n + 1 + 1 + 1 + 1 + 1 + 1) = True := by apply propext; constructor; (intro; trivial); (intro; omega)
end

/-! ### What a call owns -/
/-- os: new objects, by number. -/
structure Loc (H0 H : Hp) (os : List (Nat × AObj)) : Prop where
  len : H0.l.length ≤ H.l.length
  d : ∀ m, H.d = some m → H0.l.length ≤ m
  old : ∀ i, i < H0.l.length → H.l[i]? = H0.l[i]?
  has : ∀ p ∈ os, hget H p.1 = some p.2 ∧ H0.l.length ≤ p.1
  nd : (os.map Prod.fst).Nodup

namespace Loc
variable {H0 H : Hp} {os os' : List (Nat × AObj)} {i : Nat} {o o' : AObj}

theorem start (H : Hp) : Loc H { l := H.l, d := none } [] := ⟨Nat.le_refl _, fun m h => by simp at h, fun _ _ => rfl, fun p h => by simp at h, by simp⟩
theorem perm (h : Loc H0 H os) (p : os.Perm os') : Loc H0 H os' := ⟨h.len, h.d, h.old, fun q hq => h.has q (p.mem_iff.2 hq), (p.map Prod.fst).nodup_iff.1 h.nd⟩
theorem sub (h : Loc H0 H os) (p : os'.Sublist os) : Loc H0 H os' := ⟨h.len, h.d, h.old, fun q hq => h.has q (p.subset hq), (p.map Prod.fst).nodup h.nd⟩
theorem alloc (h : Loc H0 H os) (o : AObj) : Loc H0 (halloc H o) ((H.l.length, o) :: os) := by
  refine ⟨by simp; exact Nat.le_succ_of_le h.len, h.d, fun i hi => ?_, fun p hp => ?_, ?_⟩
  · rw [← h.old i hi]
    simp only [halloc]
    rw [List.getElem?_append_left (Nat.lt_of_lt_of_le hi h.len)]
  · rcases List.mem_cons.1 hp with rfl | hp
    · simp [h.len]
    · have := h.has p hp
      have hl := hget_lt this.1
      refine ⟨?_, this.2⟩
      rw [hget_halloc, if_neg (by omega)]; exact this.1
  · rw [List.map_cons, List.nodup_cons]
    refine ⟨fun hm => ?_, h.nd⟩
    obtain ⟨p, hp, e⟩ := List.mem_map.1 hm
    have := hget_lt (h.has p hp).1
    simp only [] at e
    omega
theorem get (h : Loc H0 H os) {p : Nat × AObj} (hp : p ∈ os) : hget H p.1 = some p.2 := (h.has p hp).1
theorem ge (h : Loc H0 H os) {p : Nat × AObj} (hp : p ∈ os) : H0.l.length ≤ p.1 := (h.has p hp).2
theorem lt (h : Loc H0 H os) {p : Nat × AObj} (hp : p ∈ os) : p.1 < H.l.length := hget_lt (h.get hp)
theorem head (h : Loc H0 H ((i, o) :: os)) : hget H i = some o := h.get (p := (i, o)) (by simp)
theorem headlt (h : Loc H0 H ((i, o) :: os)) : i < H.l.length := hget_lt h.head
theorem set (h : Loc H0 H ((i, o) :: os)) (o' : AObj) : Loc H0 (hset H i (some o')) ((i, o') :: os) := by
  have hi := h.ge (p := (i, o)) (by simp)
  have hnd := h.nd
  rw [List.map_cons, List.nodup_cons] at hnd
  refine ⟨by simp; exact h.len, fun m hm => ?_, fun j hj => ?_, fun p hp => ?_, by simpa using h.nd⟩
  · simp only [hset_d] at hm
    cases hd : H.d with
    | none => rw [hd] at hm; simp at hm; omega
    | some k => rw [hd] at hm; simp at hm; have := h.d k hd; simp only [] at hi; omega
  · rw [← h.old j hj]
    simp only [hset]
    rw [List.getElem?_set_ne (by simp only [] at hi; omega)]
  · rcases List.mem_cons.1 hp with rfl | hp
    · simp [h.headlt]; exact hi
    · have := h.has p (List.mem_cons_of_mem _ hp)
      refine ⟨?_, this.2⟩
      rw [hget_hset, if_neg]
      · exact this.1
      · intro e
        exact hnd.1 (List.mem_map.2 ⟨p, hp, e⟩)
theorem kill (h : Loc H0 H ((i, o) :: os)) : Loc H0 (hset H i none) os := by
  have hi := h.ge (p := (i, o)) (by simp)
  have hnd := h.nd
  rw [List.map_cons, List.nodup_cons] at hnd
  refine ⟨by simp; exact h.len, fun m hm => ?_, fun j hj => ?_, fun p hp => ?_, hnd.2⟩
  · simp only [hset_d] at hm
    cases hd : H.d with
    | none => rw [hd] at hm; simp at hm; omega
    | some k => rw [hd] at hm; simp at hm; have := h.d k hd; simp only [] at hi; omega
  · rw [← h.old j hj]
    simp only [hset]
    rw [List.getElem?_set_ne (by simp only [] at hi; omega)]
  · have := h.has p (List.mem_cons_of_mem _ hp)
    refine ⟨?_, this.2⟩
    rw [hget_hset, if_neg]
    · exact this.1
    · intro e
      exact hnd.1 (List.mem_map.2 ⟨p, hp, e⟩)
theorem keeps (h : Loc H0 H os) : Eng.keeps H0 H = true := by
  unfold Eng.keeps
  split
  · rfl
  · rename_i m hm; simpa using h.d m hm
theorem oldget (h : Loc H0 H os) (hi : i < H0.l.length) : hget H i = hget H0 i := by unfold hget; rw [h.old i hi]
/-- A call behind another one. -/
theorem trans {Hc : Hp} (h : Loc H0 H os) (k : Loc H Hc os') : Loc H0 { l := Hc.l, d := dminO H.d Hc.d } (os' ++ os) := by
  refine ⟨Nat.le_trans h.len k.len, fun m hm => ?_, fun i hi => ?_, fun p hp => ?_, ?_⟩
  · simp only [] at hm
    cases hd : Hc.d with
    | none => rw [hd] at hm; exact h.d m (by simpa using hm)
    | some j =>
      rw [hd] at hm
      have h1 := k.d j hd
      have h2 := h.len
      simp only [dminO_some] at hm
      cases hd2 : H.d with
      | none => rw [hd2] at hm; simp at hm; omega
      | some j2 => rw [hd2] at hm; simp at hm; have := h.d j2 hd2; omega
  · rw [← h.old i hi]; exact k.old i (Nat.lt_of_lt_of_le hi h.len)
  · rcases List.mem_append.1 hp with hp | hp
    · have := k.has p hp
      exact ⟨this.1, Nat.le_trans h.len this.2⟩
    · have := h.has p hp
      refine ⟨?_, this.2⟩
      have e := k.oldget (hget_lt this.1)
      show hget Hc p.1 = _
      rw [e]; exact this.1
  · rw [List.map_append, List.nodup_append]
    refine ⟨k.nd, h.nd, fun a ha b hb => ?_⟩
    obtain ⟨p, hp, rfl⟩ := List.mem_map.1 ha
    obtain ⟨q, hq, rfl⟩ := List.mem_map.1 hb
    have h1 := k.ge hp
    have h2 := hget_lt (h.get hq)
    omega
end Loc

theorem astore_ptr' {H : Hp} {n id off : Nat} {x : AV} : astore H n (.ptr id off) x = if x.good = true ∧ x.cells.length = n then
    (match hget H id with
      | some (.cells cs t) => if off + n ≤ cs.length then some (hset H id (some (.cells (setFrom cs off x.cells) t))) else none
      | _ => none) else none := _root_.id rfl
theorem aload_ptr' {H : Hp} {n : Option Nat} {id off : Nat} : aload H n (.ptr id off) = match hget H id with
    | some (.cells cs _) => loadC n (cs.drop off)
    | _ => none := _root_.id rfl
attribute [simp] astore_ptr' aload_ptr' setFrom

/-! ### Rows that grow -/
/-- A row of elements that a call owns; nil has no object. -/
def Row (e : TypeId) (sz : Nat) (x : AV) (es : List AV) (os : List (Nat × AObj)) : Prop :=
  (x = avNilS ∧ es = [] ∧ os = []) ∨ ∃ id, x = .ra sz id 0 es.length ∧ os = [(id, .arr sz es e)]

theorem Row.nil (e : TypeId) (sz : Nat) : Row e sz avNilS [] [] := .inl ⟨rfl, rfl, rfl⟩
theorem Row.mk (e : TypeId) (sz id : Nat) (es : List AV) : Row e sz (.ra sz id 0 es.length) es [(id, .arr sz es e)] := .inr ⟨id, rfl, rfl⟩
theorem Row.len {e : TypeId} {sz : Nat} {x : AV} {es : List AV} {os : List (Nat × AObj)} (h : Row e sz x es os) : asLen x = some es.length := by
  rcases h with ⟨rfl, rfl, rfl⟩ | ⟨id, rfl, rfl⟩ <;> rfl
theorem Row.elems {e : TypeId} {sz : Nat} {x : AV} {es : List AV} {os r : List (Nat × AObj)} {H0 H : Hp} (h : Row e sz x es os) (hl : Loc H0 H (os ++ r)) : asElems H x = some es := by
  rcases h with ⟨rfl, rfl, rfl⟩ | ⟨id, rfl, rfl⟩
  · rfl
  · have := hl.head
    simp only [asElems, this, Nat.zero_add, Nat.le_refl, if_true, List.drop_zero, List.take_length]
theorem Row.append {e : TypeId} {sz bytes : Nat} {x : AV} {es ys : List AV} {os r : List (Nat × AObj)} {H0 H : Hp} (h : Row e sz x es os) (hl : Loc H0 H (os ++ r)) (hy : ys ≠ []) (hb : (es.length + ys.length) * bytes ≤ roomMax)
    (hg : ys.all (fun y => y.good && y.cells.length == sz) = true) : ∃ v H' os', appendOn H e sz bytes x ys = some (v, some H') ∧ Row e sz v (es ++ ys) os' ∧ Loc H0 H' (os' ++ r) := by
  rcases h with ⟨rfl, rfl, rfl⟩ | ⟨id, rfl, rfl⟩
  · refine ⟨.ra sz H.l.length 0 ys.length, halloc H (.arr sz ys e), [(H.l.length, .arr sz ys e)], ?_, .inr ⟨H.l.length, by simp, by simp⟩, hl.alloc _⟩
    have : ys.isEmpty = false := by cases ys with | nil => exact absurd rfl hy | cons => rfl
    simp only [appendOn]
    rw [if_pos ⟨by simpa using hb, hg⟩, this]; rfl
  · refine ⟨.ra sz H.l.length 0 (es.length + ys.length), halloc (hset H id none) (.arr sz (es ++ ys) e), [(H.l.length, .arr sz (es ++ ys) e)], ?_, .inr ⟨H.l.length, by simp, by simp⟩, ?_⟩
    · have := hl.head
      simp only [appendOn, this]
      rw [if_pos ⟨trivial, trivial, by omega, hb, hg⟩]
      simp
    · have := (hl.kill).alloc (.arr sz (es ++ ys) e)
      simpa using this

/-- A row that nobody writes; nil, or frozen. -/
def Fzr (sz : Nat) (x : AV) (es : List AV) : Prop := (x = avNilS ∧ es = []) ∨ x = .sl sz es

theorem Row.frz {e : TypeId} {sz : Nat} {x : AV} {es fs : List AV} {os r : List (Nat × AObj)} {H0 H : Hp} {k : Nat} (h : Row e sz x es os) (hl : Loc H0 H (os ++ r)) (he : es.mapM (frz H.l H0.l.length k) = some fs) :
    ∃ u, frz H.l H0.l.length (k + 1) x = some u ∧ Fzr sz u fs := by
  rcases h with ⟨rfl, rfl, rfl⟩ | ⟨id, rfl, rfl⟩
  · simp at he
    exact ⟨avNilS, by simp [Eng.frz], .inl ⟨rfl, he⟩⟩
  · have h1 := hl.head
    have h2 := hl.ge (p := (id, .arr sz es e)) (by simp)
    unfold hget at h1
    simp only [] at h2
    refine ⟨.sl sz fs, ?_, .inr rfl⟩
    simp only [Eng.frz]
    rw [if_neg (by omega), h1]
    simp [he]

theorem mapM_some {α β : Type} {g : α → Option β} {k : α → β} : ∀ {l : List α}, (∀ x ∈ l, g x = some (k x)) → l.mapM g = some (l.map k)
  | [], _ => rfl
  | x :: l, h => by
    rw [List.mapM_cons, h x (by simp), mapM_some (fun y hy => h y (by simp [hy]))]
    rfl
theorem frz_lits {L : HL} {n k : Nat} {es : List AV} (h : ∀ x ∈ es, ∃ v, x = .lit v) : es.mapM (frz L n (k + 1)) = some es := by
  rw [mapM_some (k := id) (fun x hx => by obtain ⟨v, rfl⟩ := h x hx; rfl)]
  simp

/-! ### Frozen rows -/
/-- Reading a frozen element. -/
theorem aiaddr_sl {sz : Nat} {xs : List AV} {k : IntKind} {i : Int} {e : AV} (h0 : 0 ≤ i) (h : xs[i.toNat]? = some e) (hg : e.good = true) : aiaddr sz (.sl sz xs) (.lit (.int k i)) = some (.vp e.cells) := by
  simp [aiaddr, h0, h, hg]
@[simp] theorem aload_vp {H : Hp} {n : Option Nat} {xs : List AV} : aload H n (.vp xs) = loadC n xs := rfl
@[simp] theorem loadC_none {xs : List AV} : loadC none xs = xs[0]? := rfl
@[simp] theorem asLen_sl {sz : Nat} {xs : List AV} : asLen (.sl sz xs) = some xs.length := rfl
@[simp] theorem asLen_ra {sz id off n : Nat} : asLen (.ra sz id off n) = some n := rfl
@[simp] theorem asLen_nil : asLen avNilS = some 0 := rfl
@[simp] theorem asElems_sl {H : Hp} {sz : Nat} {xs : List AV} : asElems H (.sl sz xs) = some xs := rfl
@[simp] theorem asElems_nil {H : Hp} : asElems H avNilS = some [] := rfl
@[simp] theorem cells_lit {v : Value} : (AV.lit v).cells = [.lit v] := rfl
@[simp] theorem good_int {k : IntKind} {n : Int} : (AV.lit (.int k n)).good = true := rfl
@[simp] theorem good_str {s : ByteArray} : (AV.lit (.string s)).good = true := rfl
@[simp] theorem good_bool {b : Bool} : (AV.lit (.bool b)).good = true := rfl
@[simp] theorem one_int {k : IntKind} {n : Int} : (AV.lit (.int k n)).one = true := rfl
@[simp] theorem one_str {s : ByteArray} : (AV.lit (.string s)).one = true := rfl
@[simp] theorem one_bool {b : Bool} : (AV.lit (.bool b)).one = true := rfl
@[simp] theorem one_byte {b : UInt8} : (avByte b).one = true := rfl
@[simp] theorem one_sl {sz : Nat} {xs : List AV} : (AV.sl sz xs).one = true := rfl
@[simp] theorem one_ra {a b c d : Nat} : (AV.ra a b c d).one = true := rfl
@[simp] theorem one_nilS : (AV.lit (.slice none 0 0)).one = true := rfl
@[simp] theorem one_nilP : (AV.lit (.pointer none)).one = true := rfl
@[simp] theorem one_nilM : (AV.lit (.map none)).one = true := rfl
@[simp] theorem one_nilF : (AV.lit .nilFunc).one = true := rfl
@[simp] theorem one_map {i : Nat} : (AV.map i).one = true := rfl
@[simp] theorem one_ptr {i o : Nat} : (AV.ptr i o).one = true := rfl
@[simp] theorem one_fn {f : FuncId} {a b : List AV} : (AV.fn f a b).one = true := rfl
@[simp] theorem good_sl {sz : Nat} {xs : List AV} : (AV.sl sz xs).good = true := rfl
@[simp] theorem good_ra {a b c d : Nat} : (AV.ra a b c d).good = true := rfl
@[simp] theorem good_nilS : (AV.lit (.slice none 0 0)).good = true := rfl
@[simp] theorem good_nilP : (AV.lit (.pointer none)).good = true := rfl
@[simp] theorem good_nilM : (AV.lit (.map none)).good = true := rfl
@[simp] theorem good_nilF : (AV.lit .nilFunc).good = true := rfl
@[simp] theorem good_map {i : Nat} : (AV.map i).good = true := rfl
@[simp] theorem good_ptr {i o : Nat} : (AV.ptr i o).good = true := rfl
@[simp] theorem good_fn {f : FuncId} {a b : List AV} : (AV.fn f a b).good = true := rfl
@[simp] theorem good_agg {xs : List AV} : (AV.agg xs).good = xs.all AV.one := rfl
@[simp] theorem cells_agg {xs : List AV} : (AV.agg xs).cells = xs := rfl
@[simp] theorem cells_sl {sz : Nat} {xs : List AV} : (AV.sl sz xs).cells = [.sl sz xs] := rfl
@[simp] theorem cells_ra {a b c d : Nat} : (AV.ra a b c d).cells = [.ra a b c d] := rfl
@[simp] theorem cells_map {i : Nat} : (AV.map i).cells = [.map i] := rfl
@[simp] theorem cells_ptr {i o : Nat} : (AV.ptr i o).cells = [.ptr i o] := rfl
@[simp] theorem cells_fn {f : FuncId} {a b : List AV} : (AV.fn f a b).cells = [.fn f a b] := rfl
@[simp] theorem good_byte {b : UInt8} : (avByte b).good = true := rfl
@[simp] theorem cells_byte {b : UInt8} : (avByte b).cells = [avByte b] := rfl
@[simp] theorem afaddr_ptr {id o off : Nat} : afaddr off (.ptr id o) = some (.ptr id (o + off)) := rfl
@[simp] theorem afaddr_vp {xs : List AV} {off : Nat} : afaddr off (.vp xs) = some (.vp (xs.drop off)) := rfl
@[simp] theorem bytesOf_bytes : ∀ b : List UInt8, bytesOf (b.map avByte) = some b
  | [] => rfl
  | x :: b => by
    have := bytesOf_bytes b
    simp only [List.map_cons]
    show (bytesOf (b.map avByte)).map (UInt8.ofNat (x.toNat : Int).toNat :: ·) = _
    rw [this]
    simp

namespace Fzr
variable {sz : Nat} {x : AV} {es : List AV}
theorem len (h : Fzr sz x es) : asLen x = some es.length := by
  rcases h with ⟨rfl, rfl⟩ | rfl <;> rfl
theorem elems {H : Hp} (h : Fzr sz x es) : asElems H x = some es := by
  rcases h with ⟨rfl, rfl⟩ | rfl <;> rfl
theorem iaddr {k : IntKind} {i : Int} {e : AV} (h : Fzr sz x es) (h0 : 0 ≤ i) (h1 : es[i.toNat]? = some e) (hg : e.good = true) : aiaddr sz x (.lit (.int k i)) = some (.vp e.cells) := by
  rcases h with ⟨rfl, rfl⟩ | rfl
  · simp at h1
  · exact aiaddr_sl h0 h1 hg
theorem slice {lo hi : Option AV} {l m : Nat} (h : Fzr sz x es) (h1 : aBound hi es.length es.length = some m) (h2 : aBound lo 0 m = some l) : ∃ y, aslice sz x lo hi = some y ∧ Fzr sz y ((es.drop l).take (m - l)) := by
  rcases h with ⟨rfl, rfl⟩ | rfl
  · refine ⟨avNilS, ?_, .inl ⟨rfl, by simp⟩⟩
    have hm : m = 0 := by
      cases hi with
      | none => simp [aBound] at h1; exact h1.symm
      | some v =>
        cases v with
        | lit w => cases w <;> simp [aBound] at h1; obtain ⟨⟨a, b⟩, c⟩ := h1; omega
        | _ => simp [aBound] at h1
    subst hm
    simp only [List.length_nil] at h1
    simp [aslice, h1, h2]
  · refine ⟨.sl sz ((es.drop l).take (m - l)), ?_, .inr rfl⟩
    simp [aslice, h1, h2]
theorem from' {k : IntKind} {i : Int} (h : Fzr sz x es) (h0 : 0 ≤ i) (h1 : i ≤ es.length) : ∃ y, aslice sz x (some (.lit (.int k i))) none = some y ∧ Fzr sz y (es.drop i.toNat) := by
  obtain ⟨y, e, f⟩ := h.slice (lo := some (.lit (.int k i))) (hi := none) (m := es.length) (l := i.toNat) rfl (by simp [aBound, h0, h1])
  refine ⟨y, e, ?_⟩
  rwa [List.take_of_length_le (by simp)] at f
theorem cut {k k' : IntKind} {i j : Int} (h : Fzr sz x es) (h0 : 0 ≤ i) (h1 : i ≤ j) (h2 : j ≤ es.length) : ∃ y, aslice sz x (some (.lit (.int k i))) (some (.lit (.int k' j))) = some y ∧ Fzr sz y ((es.drop i.toNat).take (j.toNat - i.toNat)) := by
  have h3 : 0 ≤ j := by omega
  have h4 : i ≤ (j.toNat : Int) := by omega
  refine h.slice (m := j.toNat) (l := i.toNat) ?_ ?_
  · simp [aBound, h2, h3]
  · unfold aBound; simp only []; rw [if_pos ⟨h0, h4⟩]
theorem upto {k' : IntKind} {j : Int} (h : Fzr sz x es) (h0 : 0 ≤ j) (h2 : j ≤ es.length) : ∃ y, aslice sz x none (some (.lit (.int k' j))) = some y ∧ Fzr sz y (es.take j.toNat) := by
  obtain ⟨y, e, f⟩ := h.slice (lo := none) (hi := some (.lit (.int k' j))) (m := j.toNat) (l := 0) (by simp [aBound, h0, h2]) rfl
  exact ⟨y, e, by simpa using f⟩
theorem under {n : Nat} (h : Fzr sz x es) (hu : AV.unders n es = true) : x.under n = true := by
  rcases h with ⟨rfl, rfl⟩ | rfl
  · rfl
  · simpa [AV.under] using hu
end Fzr

section
variable {L : HL} {n k : Nat}
theorem frz_sl {sz : Nat} {xs : List AV} : Eng.frz L n (k + 1) (.sl sz xs) = (xs.mapM (Eng.frz L n k)).map (.sl sz) := rfl
theorem frz_ra {H : Hp} {sz id off m : Nat} {es : List AV} {t : TypeId} (h : hget H id = some (.arr sz es t)) (hn : n ≤ id) (ho : off + m ≤ es.length) : Eng.frz H.l n (k + 1) (.ra sz id off m) = (((es.drop off).take m).mapM (Eng.frz H.l n k)).map (.sl sz) := by
  unfold hget at h
  show (if id < n then _ else _) = _
  rw [if_neg (by omega), h]
  exact if_pos ⟨rfl, ho⟩
@[simp] theorem mapM_nil' {g : AV → Option AV} : List.mapM g [] = some [] := rfl
end
theorem Fzr.frz {sz : Nat} {x : AV} {es : List AV} {L : HL} {n k : Nat} (h : Fzr sz x es) (hl : ∀ e ∈ es, ∃ v, e = .lit v) : Eng.frz L n (k + 2) x = some x := by
  rcases h with ⟨rfl, rfl⟩ | rfl
  · rfl
  · rw [frz_sl, frz_lits hl]; rfl
theorem Fzr.good {sz : Nat} {x : AV} {es : List AV} (h : Fzr sz x es) : x.good = true ∧ x.cells = [x] := by
  rcases h with ⟨rfl, rfl⟩ | rfl <;> exact ⟨rfl, rfl⟩
/-- A row of bytes: nil, or frozen. -/
abbrev IsBytes (x : AV) (b : List UInt8) : Prop := Fzr 1 x (b.map avByte)
theorem IsBytes.iaddr {x : AV} {b : List UInt8} {k : IntKind} {i : Int} (h : IsBytes x b) (h0 : 0 ≤ i) (h1 : i.toNat < b.length) : aiaddr 1 x (.lit (.int k i)) = some (.vp [avByte b[i.toNat]]) := by
  refine (Fzr.iaddr h h0 (e := avByte b[i.toNat]) ?_ rfl)
  simp [List.getElem?_eq_getElem h1]
theorem IsBytes.of {x : AV} {b : List UInt8} (h : (x = avNilS ∧ b = []) ∨ x = bytesAV b) : IsBytes x b := by
  rcases h with ⟨rfl, rfl⟩ | rfl
  · exact .inl ⟨rfl, rfl⟩
  · exact .inr rfl

theorem chunk_zero {sz : Nat} {lay : Option Nat} {cs : List AV} : chunk sz lay 0 cs = [] := rfl
theorem chunk_cons {sz n : Nat} {c : AV} {cs : List AV} : chunk sz none (n + 1) (c :: cs) = c :: chunk sz none n ((c :: cs).drop sz) := rfl
theorem chunk_agg {sz k n : Nat} {cs : List AV} : chunk sz (some k) (n + 1) cs = .agg (cs.take sz) :: chunk sz (some k) n (cs.drop sz) := rfl
attribute [simp] chunk_zero chunk_cons chunk_agg fillA repl
theorem Row.under {e : TypeId} {sz : Nat} {x : AV} {es : List AV} {os : List (Nat × AObj)} {H0 H : Hp} {r : List (Nat × AObj)} (h : Row e sz x es os) (hl : Loc H0 H r) (hs : ∀ p ∈ os, p ∈ r) (hu : x.under H0.l.length = true) : os = [] := by
  rcases h with ⟨rfl, rfl, rfl⟩ | ⟨id, rfl, rfl⟩
  · rfl
  · have := hl.ge (hs (id, .arr sz es e) (by simp))
    simp [AV.under] at hu
    simp only [] at this
    omega

/-! ### Rows that can be read: frozen, or of a live object -/
def Vw (H : Hp) (sz : Nat) (x : AV) (es : List AV) : Prop :=
  Fzr sz x es ∨ ∃ id off e all, x = .ra sz id off es.length ∧ hget H id = some (.arr sz all e) ∧ off + es.length ≤ all.length ∧ (all.drop off).take es.length = es
namespace Vw
variable {H H' : Hp} {sz : Nat} {x : AV} {es : List AV}
theorem len (h : Vw H sz x es) : asLen x = some es.length := by
  rcases h with h | ⟨id, off, e, all, rfl, _⟩
  · exact h.len
  · rfl
theorem elems (h : Vw H sz x es) : asElems H x = some es := by
  rcases h with h | ⟨id, off, e, all, rfl, h1, h2, h3⟩
  · exact h.elems
  · simp only [asElems, h1, if_pos h2, h3]
theorem keep (h : Vw H sz x es) (hk : ∀ id, id < H.l.length → hget H' id = hget H id) : Vw H' sz x es := by
  rcases h with h | ⟨id, off, e, all, h0, h1, h2⟩
  · exact .inl h
  · exact .inr ⟨id, off, e, all, h0, by rw [hk id (hget_lt h1)]; exact h1, h2⟩
theorem dd (h : Vw H sz x es) (d : Option Nat) : Vw { l := H.l, d := d } sz x es := h.keep fun _ _ => rfl
theorem good (h : Vw H sz x es) : x.good = true ∧ x.cells = [x] := by
  rcases h with h | ⟨id, off, e, all, rfl, _⟩
  · exact h.good
  · exact ⟨rfl, rfl⟩
theorem at' {k : IntKind} {i : Int} {e : AV} (h : Vw H sz x es) (h0 : 0 ≤ i) (h1 : es[i.toNat]? = some e) (hg : e.good = true) (hs : sz = 1) (hc : e.cells = [e]) : ∃ p, aiaddr sz x (.lit (.int k i)) = some p ∧ aload H none p = some e := by
  rcases h with h | ⟨id, off, t, all, rfl, h2, h3, h4⟩
  · exact ⟨_, h.iaddr h0 h1 hg, by rw [hc]; rfl⟩
  · have hi : i.toNat < es.length := (List.getElem?_eq_some_iff.1 h1).1
    refine ⟨.ep id (off + i.toNat) 0, by simp [aiaddr, h0, hi], ?_⟩
    have he : all[off + i.toNat]? = some e := by
      rw [← h1, ← h4, List.getElem?_take, if_pos hi, List.getElem?_drop]
    subst hs
    simp only [aload, h2, he, hg, if_true]
    rw [if_neg (by simp), hc]
    simp
theorem slice {lo hi : Option AV} {l m : Nat} (h : Vw H sz x es) (h1 : aBound hi es.length es.length = some m) (h2 : aBound lo 0 m = some l) (hm : m ≤ es.length) : ∃ y, aslice sz x lo hi = some y ∧ Vw H sz y ((es.drop l).take (m - l)) := by
  rcases h with h | ⟨id, off, t, all, rfl, h3, h4, h5⟩
  · obtain ⟨y, e, f⟩ := h.slice h1 h2
    exact ⟨y, e, .inl f⟩
  · have hlm : l ≤ m := by
      cases lo with
      | none => simp [aBound] at h2; omega
      | some v =>
        cases v with
        | lit w => cases w <;> simp [aBound] at h2; obtain ⟨⟨a, b⟩, c⟩ := h2; omega
        | _ => simp [aBound] at h2
    have hl : ((es.drop l).take (m - l)).length = m - l := by simp; omega
    refine ⟨.ra sz id (off + l) (m - l), by simp [aslice, h1, h2], .inr ⟨id, off + l, t, all, by rw [hl], h3, by rw [hl]; omega, ?_⟩⟩
    rw [hl]
    conv => rhs; rw [← h5]
    rw [List.drop_take, List.drop_drop, List.take_take]
    congr 1
    omega
theorem from' {k : IntKind} {i : Int} (h : Vw H sz x es) (h0 : 0 ≤ i) (h1 : i ≤ es.length) : ∃ y, aslice sz x (some (.lit (.int k i))) none = some y ∧ Vw H sz y (es.drop i.toNat) := by
  obtain ⟨y, e, f⟩ := h.slice (lo := some (.lit (.int k i))) (hi := none) (m := es.length) (l := i.toNat) rfl (by simp [aBound, h0, h1]) (Nat.le_refl _)
  refine ⟨y, e, ?_⟩
  rwa [List.take_of_length_le (by simp)] at f
theorem cut {k k' : IntKind} {i j : Int} (h : Vw H sz x es) (h0 : 0 ≤ i) (h1 : i ≤ j) (h2 : j ≤ es.length) : ∃ y, aslice sz x (some (.lit (.int k i))) (some (.lit (.int k' j))) = some y ∧ Vw H sz y ((es.drop i.toNat).take (j.toNat - i.toNat)) := by
  have h3 : 0 ≤ j := by omega
  have h4 : i ≤ (j.toNat : Int) := by omega
  refine h.slice (m := j.toNat) (l := i.toNat) ?_ ?_ (by omega)
  · simp [aBound, h2, h3]
  · unfold aBound; simp only []; rw [if_pos ⟨h0, h4⟩]
theorem upto {k' : IntKind} {j : Int} (h : Vw H sz x es) (h0 : 0 ≤ j) (h2 : j ≤ es.length) : ∃ y, aslice sz x none (some (.lit (.int k' j))) = some y ∧ Vw H sz y (es.take j.toNat) := by
  obtain ⟨y, e, f⟩ := h.slice (lo := none) (hi := some (.lit (.int k' j))) (m := j.toNat) (l := 0) (by simp [aBound, h0, h2]) rfl (by omega)
  exact ⟨y, e, by simpa using f⟩
theorem under (h : Vw H sz x es) (hu : AV.unders H.l.length es = true) : x.under H.l.length = true := by
  rcases h with h | ⟨id, off, t, all, rfl, h3, h4, h5⟩
  · exact h.under hu
  · simpa [AV.under] using hget_lt h3
theorem frz {L : HL} {k : Nat} (h : Vw H sz x es) (hl : ∀ e ∈ es, ∃ v, e = .lit v) : Eng.frz L H.l.length (k + 2) x = some x := by
  rcases h with h | ⟨id, off, t, all, rfl, h3, h4, h5⟩
  · exact h.frz hl
  · show (if id < H.l.length then _ else _) = _
    rw [if_pos (hget_lt h3)]
end Vw
theorem Row.vw {e : TypeId} {sz : Nat} {x : AV} {es : List AV} {os r : List (Nat × AObj)} {H0 H : Hp} (h : Row e sz x es os) (hl : Loc H0 H (os ++ r)) : Vw H sz x es := by
  rcases h with ⟨rfl, rfl, rfl⟩ | ⟨id, rfl, rfl⟩
  · exact .inl (.inl ⟨rfl, rfl⟩)
  · exact .inr ⟨id, 0, e, es, rfl, hl.head, by omega, by simp⟩
abbrev VBytes (H : Hp) (x : AV) (b : List UInt8) : Prop := Vw H 1 x (b.map avByte)
theorem VBytes.at' {H : Hp} {x : AV} {b : List UInt8} {k : IntKind} {i : Int} (h : VBytes H x b) (h0 : 0 ≤ i) (h1 : i.toNat < b.length) : ∃ p, aiaddr 1 x (.lit (.int k i)) = some p ∧ aload H none p = some (avByte b[i.toNat]) :=
  Vw.at' h h0 (by simp [List.getElem?_eq_getElem h1]) rfl rfl rfl
theorem VBytes.str {H : Hp} {x : AV} {b : List UInt8} (h : VBytes H x b) : (asElems H x).bind bytesOf = some b := by rw [Vw.elems h]; simp
theorem IsBytes.v {H : Hp} {x : AV} {b : List UInt8} (h : IsBytes x b) : VBytes H x b := .inl h
end Go.Proofs.Eng
/- The engine, part AF: loops over functions, by what the function tells. -/
set_option linter.unusedVariables false
set_option linter.unusedSimpArgs false
namespace Go.Proofs.Eng
open Go Go.RowKit

def putR : List Nat → List AV → Rho → Rho
  | p :: ps, x :: xs, ρ => putR ps xs (upd ρ p x)
  | _, _, ρ => ρ
@[simp] theorem putR_cons {p : Nat} {ps : List Nat} {x : AV} {xs : List AV} {ρ : Rho} : putR (p :: ps) (x :: xs) ρ = putR ps xs (upd ρ p x) := _root_.id rfl
@[simp] theorem putR_nil {xs : List AV} {ρ : Rho} : putR [] xs ρ = ρ := by cases xs <;> rfl
section
variable {Γ : Sums} {A : Tab} {H0 : Hp}

end
end Go.Proofs.Eng
