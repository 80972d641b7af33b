/- The engine, part AA: more fuel changes no answer; the environment without fuel, and its equations. -/
import Derived.Test.YtchbifaiofljdaaEngZ
set_option linter.unusedVariables false
set_option linter.unusedSimpArgs false
namespace Go.Proofs.Eng
open Go Go.RowKit

structure EMono (E E' : Env) : Prop where
  call : ∀ {f : FuncId} {args : List AV} {H : Hp} {r}, E.call f args H = some r → E'.call f args H = some r
  yld : ∀ {l : Nat} {args : List AV} {H : Hp} {r}, E.yld l args H = some r → E'.yld l args H = some r
  loop : ∀ {rd : Option Nat} {b : AC} {τ : List AV} {H : Hp} {r}, E.loop rd b τ H = some r → E'.loop rd b τ H = some r
  range : ∀ {rd : Option Nat} {f : AV} {ps : List Nat} {asg b : AC} {τ : List AV} {H : Hp} {r}, E.range rd f ps asg b τ H = some r → E'.range rd f ps asg b τ H = some r
  ent : ∀ {f : FuncId} {args : List AV} {H : Hp} {r}, E.ent f args H = some r → E'.ent f args H = some r

theorem EMono.refl (E : Env) : EMono E E := ⟨fun h => h, fun h => h, fun h => h, fun h => h, fun h => h⟩
theorem EMono.trans {A B C : Env} (h : EMono A B) (k : EMono B C) : EMono A C :=
  ⟨fun e => k.call (h.call e), fun e => k.yld (h.yld e), fun e => k.loop (h.loop e), fun e => k.range (h.range e), fun e => k.ent (h.ent e)⟩

section
variable {E E' : Env}

theorem callV_mono (m : EMono E E') {f : AV} {args : List AV} {H : Hp} {r} (h : callV E f args H = some r) : callV E' f args H = some r := by
  unfold callV at *
  split at h
  · exact m.call h
  · exact m.yld h
  · simp at h

theorem aopE_mono (m : EMono E E') {τ : List AV} {H : Hp} {ao : AOp} {r} (h : aopE E τ H ao = some r) : aopE E' τ H ao = some r := by
  cases ao <;> first | exact callV_mono m h | exact h

theorem actO_mono (m : EMono E E') {o : AOper} {τ : List AV} {H : Hp} {r} (h : actO E o τ H = some r) : actO E' o τ H = some r := by
  unfold actO at *
  cases hw : wantA τ o.grd with
  | none => rw [hw] at h; simp at h
  | some b =>
    rw [hw] at h
    cases b with
    | false => exact h
    | true => exact aopE_mono m h

theorem actQ_mono (m : EMono E E') {q : Nat} {o : AOper} {τ : List AV} {H : Hp} {r} (h : actQ E q o τ H = some r) : actQ E' q o τ H = some r := by
  unfold actQ at *
  split at h
  · exact actO_mono m h
  · split at h
    · rename_i h1; rw [actO_mono m h1]; exact h
    · rename_i h1; rw [actO_mono m h1]; exact h
    · simp at h
  · exact actO_mono m h
  · split at h
    · rename_i h1; rw [actO_mono m h1]; exact h
    · simp at h
    · simp at h

theorem execOps_mono (m : EMono E E') : ∀ {l : List AOper} {τ : List AV} {H : Hp} {r}, execOps E l τ H = some r → execOps E' l τ H = some r
  | [], τ, H, r, h => h
  | o :: l, τ, H, r, h => by
    simp only [execOps] at h ⊢
    split at h
    · rename_i h1; rw [actO_mono m h1]; exact execOps_mono m h
    · simp at h

theorem execQ_mono (m : EMono E E') : ∀ {l : List (AOper × Nat)} {R : List Nat} {τ : List AV} {H : Hp} {r}, execQ E R l τ H = some r → execQ E' R l τ H = some r
  | [], R, τ, H, r, h => h
  | o :: l, R, τ, H, r, h => by
    simp only [execQ] at h ⊢
    split at h
    · rename_i hk
      rw [if_pos hk]
      split at h
      · rename_i h1; rw [actQ_mono m h1]; exact execQ_mono m h
      · simp at h
    · simp at h

theorem execC_mono (m : EMono E E') {rd : Option Nat} : ∀ (c : AC) {τ : List AV} {H : Hp} {r}, execC E rd c τ H = some r → execC E' rd c τ H = some r
  | .skip, τ, H, r, h => h
  | .exit id, τ, H, r, h => h
  | .ret, τ, H, r, h => h
  | .seq a b, τ, H, r, h => by
    simp only [execC] at h ⊢
    cases ha : execC E rd a τ H with
    | none => rw [ha] at h; simp at h
    | some p =>
      rw [ha] at h
      rw [execC_mono m a ha]
      obtain ⟨x, τ', H'⟩ := p
      cases x with
      | nrm => exact execC_mono m b h
      | ret => exact h
      | exit i => exact h
  | .ops l, τ, H, r, h => by
    simp only [execC] at h ⊢
    obtain ⟨p, hp, e⟩ := Option.map_eq_some_iff.1 h
    rw [execOps_mono m hp, Option.map_some, e]
  | .dops _ l q df, τ, H, r, h => by
    simp only [execC] at h ⊢
    split at h
    · rename_i hd
      obtain ⟨p, hp, e⟩ := Option.map_eq_some_iff.1 h
      rw [if_pos hd, execQ_mono m hp, Option.map_some, e]
    · simp at h
  | .cond c a b, τ, H, r, h => by
    simp only [execC] at h ⊢
    split at h
    · rename_i hc; exact execC_mono m a h
    · rename_i hc; exact execC_mono m b h
    · simp at h
  | .block id b, τ, H, r, h => by
    simp only [execC] at h ⊢
    cases hb : execC E rd b τ H with
    | none => rw [hb] at h; simp at h
    | some p => rw [hb] at h; rw [execC_mono m b hb]; exact h
  | .loop b, τ, H, r, h => m.loop h
  | .rangeFn f ps asg body, τ, H, r, h => m.range h

theorem runF_mono {ex ex' : AC → List AV → Hp → Option (AX × List AV × Hp)} (hx : ∀ {c : AC} {τ : List AV} {H : Hp} {r}, ex c τ H = some r → ex' c τ H = some r) {fn : AFunc} {args : List AV} {H : Hp} {r} (h : runF ex fn args H = some r) : runF ex' fn args H = some r := by
  unfold runF at *
  cases hb : ex fn.body (args ++ List.replicate (fn.ntmps - args.length) avU) { l := H.l, d := none } with
  | none => rw [hb] at h; simp at h
  | some p => rw [hb] at h; rw [hx hb]; exact h

theorem runY_mono {ex ex' : AC → List AV → Hp → Option (AX × List AV × Hp)} (hx : ∀ {c : AC} {τ : List AV} {H : Hp} {r}, ex c τ H = some r → ex' c τ H = some r) {l : Nat} {args : List AV} {H : Hp} {r} (h : runY ex l args H = some r) : runY ex' l args H = some r := by
  unfold runY at *
  split at h
  · split at h
    · rename_i hl
      rw [if_pos hl]
      split at h
      · rename_i h1
        rw [hx h1]
        split at h
        · rename_i h2
          simp only [h2]
          split at h
          · rename_i h3
            simp only [hx h3]
            exact h
          · simp at h
        · simp at h
      · simp at h
    · simp at h
  · simp at h

theorem runR_mono {ent ent' : FuncId → List AV → Hp → Option (AV × Option Hp)} (hx : ∀ {f : FuncId} {args : List AV} {H : Hp} {r}, ent f args H = some r → ent' f args H = some r) {rd : Option Nat} {f : AV} {ps : List Nat} {asg b : AC} {τ : List AV} {H : Hp} {r}
    (h : runR ent rd f ps asg b τ H = some r) : runR ent' rd f ps asg b τ H = some r := by
  unfold runR at *
  split at h
  · rename_i hl
    rw [if_pos hl]
    split at h
    · simp only [] at h ⊢
      split at h
      · rename_i h1
        rw [hx h1]
        exact h
      · simp at h
    · simp at h
  · simp at h
end

theorem env_mono {Γ : Sums} {A : Tab} : ∀ n, EMono (env Γ A n) (env Γ A (n + 1))
  | 0 => by constructor <;> intros <;> simp [env] at *
  | n + 1 => by
    have ih := env_mono (Γ := Γ) (A := A) n
    have hent : ∀ {f : FuncId} {args : List AV} {H : Hp} {r}, (env Γ A (n + 1)).ent f args H = some r → (env Γ A (n + 2)).ent f args H = some r := by
      intro f args H r h
      simp only [env] at h
      show (match A f with | some fn => runF (execC (env Γ A (n + 1)) none) fn args H | none => none) = some r
      split at h
      · rename_i fn hA
        simp only [hA]
        exact runF_mono (fun {c τ H r} h => execC_mono ih c h) h
      · simp at h
    refine ⟨?_, ?_, ?_, ?_, hent⟩
    · intro f args H r h
      simp only [env] at h
      show (match Γ f args H with | some r => some r | none => match A f with | some fn => runF (execC (env Γ A (n + 1)) none) fn args H | none => none) = some r
      split at h
      · rename_i hΓ
        simp only [hΓ]
        exact h
      · rename_i hΓ
        simp only [hΓ]
        split at h
        · rename_i fn hA
          simp only [hA]
          exact runF_mono (fun {c τ H r} h => execC_mono ih c h) h
        · simp at h
    · intro l args H r h
      simp only [env] at h
      show runY (execC (env Γ A (n + 1)) (some l)) l args H = some r
      exact runY_mono (fun {c τ H r} h => execC_mono ih c h) h
    · intro rd b τ H r h
      simp only [env] at h
      show (match execC (env Γ A (n + 1)) rd b τ H with | some (.nrm, τ', H') => (env Γ A (n + 1)).loop rd b τ' H' | r => r) = some r
      cases hb : execC (env Γ A n) rd b τ H with
      | none => rw [hb] at h; simp at h
      | some p =>
        rw [hb] at h
        rw [execC_mono ih _ hb]
        obtain ⟨x, τ', H'⟩ := p
        cases x with
        | nrm => exact ih.loop h
        | ret => exact h
        | exit i => exact h
    · intro rd f ps asg b τ H r h
      simp only [env] at h
      show runR (env Γ A (n + 1)).ent rd f ps asg b τ H = some r
      exact runR_mono (fun {f args H r} h => ih.ent h) h

theorem env_le_of {Γ : Sums} {A : Tab} {n m : Nat} (h : n ≤ m) : EMono (env Γ A n) (env Γ A m) := by
  induction h with
  | refl => exact EMono.refl _
  | step _ ih => exact ih.trans (env_mono _)

open Classical in
noncomputable def limO {α : Type} (s : Nat → Option α) : Option α := if h : ∃ n r, s n = some r then s h.choose else none

theorem limO_some {α : Type} {s : Nat → Option α} (hm : ∀ n m r, n ≤ m → s n = some r → s m = some r) {r : α} : limO s = some r ↔ ∃ n, s n = some r := by
  unfold limO
  constructor
  · intro h
    split at h
    · exact ⟨_, h⟩
    · simp at h
  · rintro ⟨n, hn⟩
    have hx : ∃ n r, s n = some r := ⟨n, r, hn⟩
    rw [dif_pos hx]
    obtain ⟨r', hr'⟩ := hx.choose_spec
    rcases Nat.le_total hx.choose n with h | h
    · have := hm _ _ _ h hr'
      rw [hn] at this
      injection this with this
      subst this; exact hr'
    · exact hm _ _ _ h hn

/-- The environment without fuel. -/
noncomputable def lim (Γ : Sums) (A : Tab) : Env where
  call f args H := limO fun n => (env Γ A n).call f args H
  yld l args H := limO fun n => (env Γ A n).yld l args H
  loop rd b τ H := limO fun n => (env Γ A n).loop rd b τ H
  range rd f ps asg b τ H := limO fun n => (env Γ A n).range rd f ps asg b τ H
  ent f args H := limO fun n => (env Γ A n).ent f args H

section
variable {Γ : Sums} {A : Tab}

theorem lim_call {f : FuncId} {args : List AV} {H : Hp} {r} : (lim Γ A).call f args H = some r ↔ ∃ n, (env Γ A n).call f args H = some r := limO_some fun _ _ _ h e => (env_le_of h).call e
theorem lim_yld {l : Nat} {args : List AV} {H : Hp} {r} : (lim Γ A).yld l args H = some r ↔ ∃ n, (env Γ A n).yld l args H = some r := limO_some fun _ _ _ h e => (env_le_of h).yld e
theorem lim_loop {rd : Option Nat} {b : AC} {τ : List AV} {H : Hp} {r} : (lim Γ A).loop rd b τ H = some r ↔ ∃ n, (env Γ A n).loop rd b τ H = some r := limO_some fun _ _ _ h e => (env_le_of h).loop e
theorem lim_range {rd : Option Nat} {f : AV} {ps : List Nat} {asg b : AC} {τ : List AV} {H : Hp} {r} : (lim Γ A).range rd f ps asg b τ H = some r ↔ ∃ n, (env Γ A n).range rd f ps asg b τ H = some r := limO_some fun _ _ _ h e => (env_le_of h).range e
theorem lim_ent {f : FuncId} {args : List AV} {H : Hp} {r} : (lim Γ A).ent f args H = some r ↔ ∃ n, (env Γ A n).ent f args H = some r := limO_some fun _ _ _ h e => (env_le_of h).ent e

theorem env_lim (n : Nat) : EMono (env Γ A n) (lim Γ A) := ⟨fun h => lim_call.2 ⟨n, h⟩, fun h => lim_yld.2 ⟨n, h⟩, fun h => lim_loop.2 ⟨n, h⟩, fun h => lim_range.2 ⟨n, h⟩, fun h => lim_ent.2 ⟨n, h⟩⟩

theorem callV_cont {f : AV} {args : List AV} {H : Hp} {r} (h : callV (lim Γ A) f args H = some r) : ∃ n, callV (env Γ A n) f args H = some r := by
  unfold callV at *
  split at h
  · exact lim_call.1 h
  · exact lim_yld.1 h
  · simp at h

theorem aopE_cont {τ : List AV} {H : Hp} {ao : AOp} {r} (h : aopE (lim Γ A) τ H ao = some r) : ∃ n, aopE (env Γ A n) τ H ao = some r := by
  cases ao <;> first | exact callV_cont h | exact ⟨0, h⟩

theorem actO_cont {o : AOper} {τ : List AV} {H : Hp} {r} (h : actO (lim Γ A) o τ H = some r) : ∃ n, actO (env Γ A n) o τ H = some r := by
  unfold actO at *
  cases hw : wantA τ o.grd with
  | none => rw [hw] at h; simp at h
  | some b =>
    rw [hw] at h
    cases b with
    | false => exact ⟨0, h⟩
    | true => exact aopE_cont h

theorem actQ_cont {q : Nat} {o : AOper} {τ : List AV} {H : Hp} {r} (h : actQ (lim Γ A) q o τ H = some r) : ∃ n, actQ (env Γ A n) q o τ H = some r := by
  unfold actQ at *
  split at h
  · exact actO_cont h
  · split at h
    · rename_i h1; obtain ⟨n, h2⟩ := actO_cont h1; refine ⟨n, ?_⟩; rw [h2]; exact h
    · rename_i h1; obtain ⟨n, h2⟩ := actO_cont h1; refine ⟨n, ?_⟩; rw [h2]; exact h
    · simp at h
  · exact actO_cont h
  · split at h
    · rename_i h1; obtain ⟨n, h2⟩ := actO_cont h1; refine ⟨n, ?_⟩; rw [h2]; exact h
    · simp at h
    · simp at h

theorem execOps_cont : ∀ {l : List AOper} {τ : List AV} {H : Hp} {r}, execOps (lim Γ A) l τ H = some r → ∃ n, execOps (env Γ A n) l τ H = some r
  | [], τ, H, r, h => ⟨0, h⟩
  | o :: l, τ, H, r, h => by
    simp only [execOps] at h ⊢
    split at h
    · rename_i h1
      obtain ⟨n, h2⟩ := actO_cont h1
      obtain ⟨m, h3⟩ := execOps_cont h
      refine ⟨max n m, ?_⟩
      rw [actO_mono (env_le_of (Nat.le_max_left n m)) h2]
      exact execOps_mono (env_le_of (Nat.le_max_right n m)) h3
    · simp at h

theorem execQ_cont : ∀ {l : List (AOper × Nat)} {R : List Nat} {τ : List AV} {H : Hp} {r}, execQ (lim Γ A) R l τ H = some r → ∃ n, execQ (env Γ A n) R l τ H = some r
  | [], R, τ, H, r, h => ⟨0, h⟩
  | o :: l, R, τ, H, r, h => by
    simp only [execQ] at h ⊢
    split at h
    · rename_i hk
      split at h
      · rename_i h1
        obtain ⟨n, h2⟩ := actQ_cont h1
        obtain ⟨m, h3⟩ := execQ_cont h
        refine ⟨max n m, ?_⟩
        rw [if_pos hk, actQ_mono (env_le_of (Nat.le_max_left n m)) h2]
        exact execQ_mono (env_le_of (Nat.le_max_right n m)) h3
      · simp at h
    · simp at h

theorem execC_cont {rd : Option Nat} : ∀ (c : AC) {τ : List AV} {H : Hp} {r}, execC (lim Γ A) rd c τ H = some r → ∃ n, execC (env Γ A n) rd c τ H = some r
  | .skip, τ, H, r, h => ⟨0, h⟩
  | .exit id, τ, H, r, h => ⟨0, h⟩
  | .ret, τ, H, r, h => ⟨0, h⟩
  | .seq a b, τ, H, r, h => by
    simp only [execC] at h ⊢
    cases ha : execC (lim Γ A) rd a τ H with
    | none => rw [ha] at h; simp at h
    | some p =>
      rw [ha] at h
      obtain ⟨n, hn⟩ := execC_cont a ha
      obtain ⟨x, τ', H'⟩ := p
      cases x with
      | nrm =>
        obtain ⟨m, hm⟩ := execC_cont b h
        refine ⟨max n m, ?_⟩
        rw [execC_mono (env_le_of (Nat.le_max_left n m)) a hn]
        exact execC_mono (env_le_of (Nat.le_max_right n m)) b hm
      | ret => exact ⟨n, by rw [hn]; exact h⟩
      | exit i => exact ⟨n, by rw [hn]; exact h⟩
  | .ops l, τ, H, r, h => by
    simp only [execC] at h ⊢
    obtain ⟨p, hp, e⟩ := Option.map_eq_some_iff.1 h
    obtain ⟨n, hn⟩ := execOps_cont hp
    exact ⟨n, by rw [hn, Option.map_some, e]⟩
  | .dops _ l q df, τ, H, r, h => by
    simp only [execC] at h ⊢
    split at h
    · rename_i hd
      obtain ⟨p, hp, e⟩ := Option.map_eq_some_iff.1 h
      obtain ⟨n, hn⟩ := execQ_cont hp
      exact ⟨n, by rw [if_pos hd, hn, Option.map_some, e]⟩
    · simp at h
  | .cond c a b, τ, H, r, h => by
    simp only [execC] at h ⊢
    split at h
    · exact execC_cont a h
    · exact execC_cont b h
    · simp at h
  | .block id b, τ, H, r, h => by
    simp only [execC] at h ⊢
    cases hb : execC (lim Γ A) rd b τ H with
    | none => rw [hb] at h; simp at h
    | some p =>
      rw [hb] at h
      obtain ⟨n, hn⟩ := execC_cont b hb
      exact ⟨n, by rw [hn]; exact h⟩
  | .loop b, τ, H, r, h => lim_loop.1 h
  | .rangeFn f ps asg body, τ, H, r, h => lim_range.1 h

theorem runF_cont {fn : AFunc} {args : List AV} {H : Hp} {r} (h : runF (execC (lim Γ A) none) fn args H = some r) : ∃ n, runF (execC (env Γ A n) none) fn args H = some r := by
  unfold runF at *
  cases hb : execC (lim Γ A) none fn.body (args ++ List.replicate (fn.ntmps - args.length) avU) { l := H.l, d := none } with
  | none => rw [hb] at h; simp at h
  | some p =>
    rw [hb] at h
    obtain ⟨n, hn⟩ := execC_cont _ hb
    exact ⟨n, by rw [hn]; exact h⟩

theorem runY_cont {l : Nat} {args : List AV} {H : Hp} {r} (h : runY (execC (lim Γ A) (some l)) l args H = some r) : ∃ n, runY (execC (env Γ A n) (some l)) l args H = some r := by
  unfold runY at *
  split at h
  · split at h
    · rename_i hl
      split at h
      · rename_i h1
        obtain ⟨n, hn⟩ := execC_cont _ h1
        split at h
        · rename_i h2
          split at h
          · rename_i h3
            obtain ⟨m, hm⟩ := execC_cont _ h3
            refine ⟨max n m, ?_⟩
            rw [if_pos hl, execC_mono (env_le_of (Nat.le_max_left n m)) _ hn]
            simp only [h2, execC_mono (env_le_of (Nat.le_max_right n m)) _ hm]
            exact h
          · simp at h
        · simp at h
      · simp at h
    · simp at h
  · simp at h

theorem runR_cont {rd : Option Nat} {f : AV} {ps : List Nat} {asg b : AC} {τ : List AV} {H : Hp} {r} (h : runR (lim Γ A).ent rd f ps asg b τ H = some r) : ∃ n, runR (env Γ A n).ent rd f ps asg b τ H = some r := by
  unfold runR at *
  split at h
  · rename_i hl
    split at h
    · simp only [] at h
      split at h
      · rename_i h1
        obtain ⟨n, hn⟩ := lim_ent.1 h1
        refine ⟨n, ?_⟩
        rw [if_pos hl]
        simp only [hn]
        exact h
      · simp at h
    · simp at h
  · simp at h

theorem opt_ext {α : Type} {a b : Option α} (h1 : ∀ r, a = some r → b = some r) (h2 : ∀ r, b = some r → a = some r) : a = b := by
  cases a with
  | none => cases b with
    | none => rfl
    | some r => exact h2 r rfl
  | some r => exact (h1 r rfl).symm

theorem lim_ent_eq {f : FuncId} {args : List AV} {H : Hp} : (lim Γ A).ent f args H = (match A f with | some fn => runF (execC (lim Γ A) none) fn args H | none => none) := by
  apply opt_ext
  · intro r h
    obtain ⟨n, hn⟩ := lim_ent.1 h
    cases n with
    | zero => simp [env] at hn
    | succ n =>
      simp only [env] at hn
      split at hn
      · rename_i fn hA
        simp only [hA]
        exact runF_mono (fun {c τ H r} h => execC_mono (env_lim n) c h) hn
      · simp at hn
  · intro r h
    refine lim_ent.2 ?_
    split at h
    · rename_i fn hA
      obtain ⟨n, hn⟩ := runF_cont h
      exact ⟨n + 1, by simp only [env, hA]; exact hn⟩
    · simp at h

theorem lim_call_eq {f : FuncId} {args : List AV} {H : Hp} : (lim Γ A).call f args H = (match Γ f args H with | some r => some r | none => match A f with | some fn => runF (execC (lim Γ A) none) fn args H | none => none) := by
  apply opt_ext
  · intro r h
    obtain ⟨n, hn⟩ := lim_call.1 h
    cases n with
    | zero => simp [env] at hn
    | succ n =>
      simp only [env] at hn
      split at hn
      · rename_i hΓ
        simp only [hΓ]
        exact hn
      · rename_i hΓ
        simp only [hΓ]
        split at hn
        · rename_i fn hA
          simp only [hA]
          exact runF_mono (fun {c τ H r} h => execC_mono (env_lim n) c h) hn
        · simp at hn
  · intro r h
    refine lim_call.2 ?_
    split at h
    · rename_i hΓ
      exact ⟨1, by simp only [env, hΓ]; exact h⟩
    · rename_i hΓ
      split at h
      · rename_i fn hA
        obtain ⟨n, hn⟩ := runF_cont h
        exact ⟨n + 1, by simp only [env, hΓ, hA]; exact hn⟩
      · simp at h

theorem lim_yld_eq {l : Nat} {args : List AV} {H : Hp} : (lim Γ A).yld l args H = runY (execC (lim Γ A) (some l)) l args H := by
  apply opt_ext
  · intro r h
    obtain ⟨n, hn⟩ := lim_yld.1 h
    cases n with
    | zero => simp [env] at hn
    | succ n => exact runY_mono (fun {c τ H r} h => execC_mono (env_lim n) c h) hn
  · intro r h
    obtain ⟨n, hn⟩ := runY_cont h
    exact lim_yld.2 ⟨n + 1, hn⟩

theorem lim_range_eq {rd : Option Nat} {f : AV} {ps : List Nat} {asg b : AC} {τ : List AV} {H : Hp} : (lim Γ A).range rd f ps asg b τ H = runR (lim Γ A).ent rd f ps asg b τ H := by
  apply opt_ext
  · intro r h
    obtain ⟨n, hn⟩ := lim_range.1 h
    cases n with
    | zero => simp [env] at hn
    | succ n => exact runR_mono (fun {f args H r} h => (env_lim n).ent h) hn
  · intro r h
    obtain ⟨n, hn⟩ := runR_cont h
    exact lim_range.2 ⟨n + 1, hn⟩

theorem lim_loop_eq {rd : Option Nat} {b : AC} {τ : List AV} {H : Hp} : (lim Γ A).loop rd b τ H = (match execC (lim Γ A) rd b τ H with | some (.nrm, τ', H') => (lim Γ A).loop rd b τ' H' | r => r) := by
  apply opt_ext
  · intro r h
    obtain ⟨n, hn⟩ := lim_loop.1 h
    cases n with
    | zero => simp [env] at hn
    | succ n =>
      simp only [env] at hn
      cases hb : execC (env Γ A n) rd b τ H with
      | none => rw [hb] at hn; simp at hn
      | some p =>
        rw [hb] at hn
        rw [execC_mono (env_lim n) _ hb]
        obtain ⟨x, τ', H'⟩ := p
        cases x with
        | nrm => exact lim_loop.2 ⟨n, hn⟩
        | ret => exact hn
        | exit i => exact hn
  · intro r h
    refine lim_loop.2 ?_
    cases hb : execC (lim Γ A) rd b τ H with
    | none => rw [hb] at h; simp at h
    | some p =>
      rw [hb] at h
      obtain ⟨n, hn⟩ := execC_cont _ hb
      obtain ⟨x, τ', H'⟩ := p
      cases x with
      | nrm =>
        obtain ⟨m, hm⟩ := lim_loop.1 h
        refine ⟨max n m + 1, ?_⟩
        simp only [env]
        rw [execC_mono (env_le_of (Nat.le_max_left n m)) _ hn]
        exact (env_le_of (Nat.le_max_right n m)).loop hm
      | ret => exact ⟨n + 1, by simp only [env]; rw [hn]; exact h⟩
      | exit i => exact ⟨n + 1, by simp only [env]; rw [hn]; exact h⟩

/-- What fuel answers, the limit answers. -/
theorem lim_of_env {n : Nat} {f : FuncId} {args : List AV} {H : Hp} {r} (h : (env Γ A n).call f args H = some r) : (lim Γ A).call f args H = some r := lim_call.2 ⟨n, h⟩
end
end Go.Proofs.Eng
