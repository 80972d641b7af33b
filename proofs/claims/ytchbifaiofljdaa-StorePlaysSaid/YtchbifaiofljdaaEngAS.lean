/- The engine, part AS: functions run for whatever is drawn; their summaries; laws. -/
import Derived.Test.YtchbifaiofljdaaEngAR
set_option linter.unusedVariables false
set_option linter.unusedSimpArgs false
namespace Go.Proofs.Eng
open Go Go.RowKit

section
variable {E : Env} {C : DCalls}

theorem wpDO_mono : ∀ {l : List DOp} {τ : List AV} {H : Hp} {its : Its} {K K' : List AV → Hp → Its → Prop}, (∀ τ H its, K τ H its → K' τ H its) → wpDO C E l τ H its K → wpDO C E l τ H its K'
  | [], τ, H, its, K, K', hk, h => hk _ _ _ h
  | .op o :: r, τ, H, its, K, K', hk, h => by
    obtain ⟨v, g, e, h⟩ := h
    exact ⟨v, g, e, wpDO_mono hk h⟩
  | .range d m :: r, τ, H, its, K, K', hk, h => by
    obtain ⟨id, es, clk, e1, e2, h⟩ := h
    exact ⟨id, es, clk, e1, e2, fun s => wpDO_mono hk (h s)⟩
  | .next d it :: r, τ, H, its, K, K', hk, h => by
    obtain ⟨id, I, es, e1, e2, e3, h1, h2⟩ := h
    exact ⟨id, I, es, e1, e2, e3, fun e => wpDO_mono hk (h1 e), fun e he => wpDO_mono hk (h2 e he)⟩
  | .entry d it :: r, τ, H, its, K, K', hk, h => by
    obtain ⟨id, I, es, e, e1, e2, e3, e4, e5, e6, h⟩ := h
    exact ⟨id, I, es, e, e1, e2, e3, e4, e5, e6, wpDO_mono hk h⟩
  | .call d f args :: r, τ, H, its, K, K', hk, h => by
    obtain ⟨R, hR, h⟩ := h
    exact ⟨R, hR, fun v g hv => wpDO_mono hk (h v g hv)⟩

theorem wpDC_mono : ∀ (c : DC) {τ : List AV} {H : Hp} {its : Its} {K K' : DPost}, (∀ x τ H its, K x τ H its → K' x τ H its) → wpDC C E c τ H its K → wpDC C E c τ H its K'
  | .base c, τ, H, its, K, K', hk, h => by obtain ⟨x, τ', H', e, h⟩ := h; exact ⟨x, τ', H', e, hk _ _ _ _ h⟩
  | .regD l, τ, H, its, K, K', hk, h => wpDO_mono (fun τ H its => hk .nrm τ H its) h
  | .alts l, τ, H, its, K, K', hk, h => ⟨h.1, fun c hc => by obtain ⟨τ', H', e, h⟩ := h.2 c hc; exact ⟨τ', H', e, hk _ _ _ _ h⟩⟩
  | .seq a b, τ, H, its, K, K', hk, h => by
    refine wpDC_mono a (fun x τ H its h => ?_) h
    cases x with
    | nrm => exact wpDC_mono b hk h
    | ret => exact hk _ _ _ _ h
    | exit i => exact hk _ _ _ _ h
  | .cond c a b, τ, H, its, K, K', hk, h => by
    obtain ⟨t, e, h1, h2⟩ := h
    exact ⟨t, e, fun k => wpDC_mono a hk (h1 k), fun k => wpDC_mono b hk (h2 k)⟩
  | .block id b, τ, H, its, K, K', hk, h => by
    refine wpDC_mono b (fun x τ H its h => ?_) h
    cases x with
    | nrm => exact hk _ _ _ _ h
    | ret => exact hk _ _ _ _ h
    | exit i =>
      simp only [] at h ⊢
      by_cases hi : i = id
      · rw [if_pos hi] at h ⊢; exact hk _ _ _ _ h
      · rw [if_neg hi] at h ⊢; exact hk _ _ _ _ h
  | .loop b, τ, H, its, K, K', hk, h => by
    obtain ⟨k, h⟩ := h
    refine ⟨k, ?_⟩
    have key : ∀ (k : Nat) (τ : List AV) (H : Hp) (its : Its), iterD (fun τ H its K => wpDC C E b τ H its K) K k τ H its → iterD (fun τ H its K => wpDC C E b τ H its K) K' k τ H its := by
      intro k
      induction k with
      | zero => intro τ H its h; exact h
      | succ k ih =>
        intro τ H its h
        simp only [iterD] at h ⊢
        refine wpDC_mono b (fun x τ H its h => ?_) h
        cases x with
        | nrm => exact ih _ _ _ h
        | ret => exact hk _ _ _ _ h
        | exit i => exact hk _ _ _ _ h
    exact key k _ _ _ h

theorem wpDO_and : ∀ {l : List DOp} {τ : List AV} {H : Hp} {its : Its} {K K' : List AV → Hp → Its → Prop}, wpDO C E l τ H its K → wpDO C E l τ H its K' → wpDO C E l τ H its fun τ H its => K τ H its ∧ K' τ H its
  | [], τ, H, its, K, K', h, h' => ⟨h, h'⟩
  | .op o :: r, τ, H, its, K, K', h, h' => by
    obtain ⟨v, g, e, h⟩ := h
    obtain ⟨v', g', e', h'⟩ := h'
    rw [e] at e'; cases e'
    exact ⟨v, g, e, wpDO_and h h'⟩
  | .range d m :: r, τ, H, its, K, K', h, h' => by
    obtain ⟨id, es, clk, e1, e2, h⟩ := h
    obtain ⟨id', es', clk', e1', e2', h'⟩ := h'
    rw [e1] at e1'; cases e1'
    rw [e2] at e2'; cases e2'
    exact ⟨id, es, clk, e1, e2, fun s => wpDO_and (h s) (h' s)⟩
  | .next d it :: r, τ, H, its, K, K', h, h' => by
    obtain ⟨id, I, es, e1, e2, e3, h1, h2⟩ := h
    obtain ⟨id', I', es', e1', e2', e3', h1', h2'⟩ := h'
    rw [e1] at e1'; cases e1'
    rw [e2] at e2'; cases e2'
    rw [e3] at e3'; cases e3'
    exact ⟨id, I, es, e1, e2, e3, fun e => wpDO_and (h1 e) (h1' e), fun e he => wpDO_and (h2 e he) (h2' e he)⟩
  | .entry d it :: r, τ, H, its, K, K', h, h' => by
    obtain ⟨id, I, es, e, e1, e2, e3, e4, e5, e6, h⟩ := h
    obtain ⟨id', I', es', e', e1', e2', e3', e4', e5', e6', h'⟩ := h'
    rw [e1] at e1'; cases e1'
    rw [e2] at e2'; cases e2'
    rw [e3] at e3'; cases e3'
    rw [e4] at e4'; cases e4'
    exact ⟨id, I, es, e, e1, e2, e3, e4, e5, e6, wpDO_and h h'⟩
  | .call d f args :: r, τ, H, its, K, K', h, h' => by
    obtain ⟨R, hR, h⟩ := h
    obtain ⟨R', hR', h'⟩ := h'
    exact ⟨_, C.and hR hR', fun v g hv => wpDO_and (h v g hv.1) (h' v g hv.2)⟩

theorem iterD_mono {step : List AV → Hp → Its → DPost → Prop} (hs : ∀ (τ : List AV) (H : Hp) (its : Its) (K K' : DPost), (∀ x τ H its, K x τ H its → K' x τ H its) → step τ H its K → step τ H its K') {K : DPost} :
    ∀ (k j : Nat), k ≤ j → ∀ (τ : List AV) (H : Hp) (its : Its), iterD step K k τ H its → iterD step K j τ H its
  | 0, j, _, τ, H, its, h => h.elim
  | k + 1, 0, hkj, τ, H, its, h => by omega
  | k + 1, j + 1, hkj, τ, H, its, h => by
    simp only [iterD] at h ⊢
    refine hs _ _ _ _ _ (fun x τ H its h => ?_) h
    cases x with
    | nrm => exact iterD_mono hs k j (by omega) _ _ _ h
    | ret => exact h
    | exit i => exact h

theorem wpDC_and : ∀ (c : DC) {τ : List AV} {H : Hp} {its : Its} {K K' : DPost}, wpDC C E c τ H its K → wpDC C E c τ H its K' → wpDC C E c τ H its fun x τ H its => K x τ H its ∧ K' x τ H its
  | .base c, τ, H, its, K, K', h, h' => by
    obtain ⟨x, τ', H', e, h⟩ := h
    obtain ⟨x', τ'', H'', e', h'⟩ := h'
    rw [e] at e'; cases e'
    exact ⟨x, τ', H', e, h, h'⟩
  | .regD l, τ, H, its, K, K', h, h' => wpDO_and h h'
  | .alts l, τ, H, its, K, K', h, h' => ⟨h.1, fun c hc => by
    obtain ⟨τ', H', e, h⟩ := h.2 c hc
    obtain ⟨τ'', H'', e', h'⟩ := h'.2 c hc
    rw [e] at e'; cases e'
    exact ⟨τ', H', e, h, h'⟩⟩
  | .seq a b, τ, H, its, K, K', h, h' => by
    refine wpDC_mono a (fun x τ H its h => ?_) (wpDC_and a h h')
    cases x with
    | nrm => exact wpDC_and b h.1 h.2
    | ret => exact h
    | exit i => exact h
  | .cond c a b, τ, H, its, K, K', h, h' => by
    obtain ⟨t, e, h1, h2⟩ := h
    obtain ⟨t', e', h1', h2'⟩ := h'
    rw [e] at e'; cases e'
    exact ⟨t, e, fun k => wpDC_and a (h1 k) (h1' k), fun k => wpDC_and b (h2 k) (h2' k)⟩
  | .block id b, τ, H, its, K, K', h, h' => by
    refine wpDC_mono b (fun x τ H its h => ?_) (wpDC_and b h h')
    cases x with
    | nrm => exact h
    | ret => exact h
    | exit i =>
      simp only [] at h ⊢
      by_cases hi : i = id
      · rw [if_pos hi] at h ⊢; rw [if_pos hi] at h; exact h
      · rw [if_neg hi] at h ⊢; rw [if_neg hi] at h; exact h
  | .loop b, τ, H, its, K, K', h, h' => by
    obtain ⟨k, h⟩ := h
    obtain ⟨k', h'⟩ := h'
    have g := iterD_mono (step := fun τ H its K => wpDC C E b τ H its K) (fun _ _ _ _ _ hk h => wpDC_mono b hk h) _ _ (Nat.le_max_left k k') _ _ _ h
    have g' := iterD_mono (step := fun τ H its K => wpDC C E b τ H its K) (fun _ _ _ _ _ hk h => wpDC_mono b hk h) _ _ (Nat.le_max_right k k') _ _ _ h'
    refine ⟨max k k', ?_⟩
    have key : ∀ (m : Nat) (τ : List AV) (H : Hp) (its : Its), iterD (fun τ H its K => wpDC C E b τ H its K) K m τ H its → iterD (fun τ H its K => wpDC C E b τ H its K) K' m τ H its →
        iterD (fun τ H its K => wpDC C E b τ H its K) (fun x τ H its => K x τ H its ∧ K' x τ H its) m τ H its := by
      intro m
      induction m with
      | zero => intro τ H its g _; exact g
      | succ m ih =>
        intro τ H its g g'
        simp only [iterD] at g g' ⊢
        refine wpDC_mono b (fun x τ H its h => ?_) (wpDC_and b g g')
        cases x with
        | nrm => exact ih _ _ _ h.1 h.2
        | ret => exact h
        | exit i => exact h
    exact key _ _ _ _ g g'

end

/-! ### The heap grows -/
theorem HLe.dead (H : Hp) : HLe H (hdead H) := ⟨by simp [hdead], fun m h => ⟨m, h, Nat.le_refl _⟩, fun i hi _ => by simp [hdead, List.getElem?_append_left hi]⟩

section
variable {P : Program} {Γ : Sums} {A : Tab} {C : DCalls}

theorem wpDO_le (hΓ : GOK P Γ) : ∀ {l : List DOp} {τ : List AV} {H : Hp} {its : Its} {K : List AV → Hp → Its → Prop}, wpDO C (lim Γ A) l τ H its K → wpDO C (lim Γ A) l τ H its fun τ' H' its' => K τ' H' its' ∧ HLe H H'
  | [], τ, H, its, K, h => ⟨h, HLe.refl _⟩
  | .op o :: r, τ, H, its, K, h => by
    obtain ⟨v, g, e, h⟩ := h
    obtain ⟨n, e'⟩ := actO_cont e
    have := actO_le (env_le hΓ.le n).toCLe e'
    exact ⟨v, g, e, wpDO_mono (fun _ _ _ h => ⟨h.1, HLe.trans this h.2⟩) (wpDO_le hΓ h)⟩
  | .range d m :: r, τ, H, its, K, h => by
    obtain ⟨id, es, clk, e1, e2, h⟩ := h
    exact ⟨id, es, clk, e1, e2, fun s => wpDO_mono (fun _ _ _ h => ⟨h.1, (HLe.dead H).trans h.2⟩) (wpDO_le hΓ (h s))⟩
  | .next d it :: r, τ, H, its, K, h => by
    obtain ⟨id, I, es, e1, e2, e3, h1, h2⟩ := h
    exact ⟨id, I, es, e1, e2, e3, fun e => wpDO_le hΓ (h1 e), fun e he => wpDO_le hΓ (h2 e he)⟩
  | .entry d it :: r, τ, H, its, K, h => by
    obtain ⟨id, I, es, e, e1, e2, e3, e4, e5, e6, h⟩ := h
    exact ⟨id, I, es, e, e1, e2, e3, e4, e5, e6, wpDO_le hΓ h⟩
  | .call d f args :: r, τ, H, its, K, h => by
    obtain ⟨R, hR, h⟩ := h
    refine ⟨_, C.le hR, fun v g hv => wpDO_mono (fun _ _ _ k => ⟨k.1, HLe.trans ?_ k.2⟩) (wpDO_le hΓ (h v g hv.1))⟩
    exact hv.2

theorem limC_le (hΓ : GOK P Γ) {c : AC} {τ τ' : List AV} {H H' : Hp} {x : AX} (e : execC (lim Γ A) none c τ H = some (x, τ', H')) : HLe H H' := by
  obtain ⟨n, e⟩ := execC_cont c e
  exact execC_le (env_le hΓ.le n) c e

theorem wpDC_le (hΓ : GOK P Γ) : ∀ (c : DC) {τ : List AV} {H : Hp} {its : Its} {K : DPost}, wpDC C (lim Γ A) c τ H its K → wpDC C (lim Γ A) c τ H its fun x τ' H' its' => K x τ' H' its' ∧ HLe H H'
  | .base c, τ, H, its, K, h => by obtain ⟨x, τ', H', e, h⟩ := h; exact ⟨x, τ', H', e, h, limC_le hΓ e⟩
  | .regD l, τ, H, its, K, h => wpDO_le hΓ h
  | .alts l, τ, H, its, K, h => ⟨h.1, fun c hc => by obtain ⟨τ', H', e, h⟩ := h.2 c hc; exact ⟨τ', H', e, h, limC_le hΓ e⟩⟩
  | .seq a b, τ, H, its, K, h => by
    refine wpDC_mono a (fun x τ' H' its h => ?_) (wpDC_le hΓ a h)
    cases x with
    | nrm => exact wpDC_mono b (fun _ _ _ _ k => ⟨k.1, h.2.trans k.2⟩) (wpDC_le hΓ b h.1)
    | ret => exact h
    | exit i => exact h
  | .cond c a b, τ, H, its, K, h => by
    obtain ⟨t, e, h1, h2⟩ := h
    exact ⟨t, e, fun k => wpDC_le hΓ a (h1 k), fun k => wpDC_le hΓ b (h2 k)⟩
  | .block id b, τ, H, its, K, h => by
    refine wpDC_mono b (fun x τ' H' its h => ?_) (wpDC_le hΓ b h)
    cases x with
    | nrm => exact h
    | ret => exact h
    | exit i =>
      simp only [] at h ⊢
      by_cases hi : i = id
      · rw [if_pos hi] at h ⊢; exact h
      · rw [if_neg hi] at h ⊢; exact h
  | .loop b, τ, H, its, K, h => by
    obtain ⟨k, h⟩ := h
    refine ⟨k, ?_⟩
    have key : ∀ (k : Nat) {τ : List AV} {H0 H : Hp} {its : Its}, HLe H0 H → iterD (fun τ H its K => wpDC C (lim Γ A) b τ H its K) K k τ H its → iterD (fun τ H its K => wpDC C (lim Γ A) b τ H its K) (fun x τ' H' its' => K x τ' H' its' ∧ HLe H0 H') k τ H its := by
      intro k
      induction k with
      | zero => intro τ H0 H its _ h; exact h
      | succ k ih =>
        intro τ H0 H its hl h
        simp only [iterD] at h ⊢
        refine wpDC_mono b (fun x τ' H' its h => ?_) (wpDC_le hΓ b h)
        cases x with
        | nrm => exact ih (hl.trans h.2) h.1
        | ret => exact ⟨h.1, hl.trans h.2⟩
        | exit i => exact ⟨h.1, hl.trans h.2⟩
    exact key k (HLe.refl _) h

/-! ### Functions -/
structure DFunc where
  ntmps : Nat
  results : List (Sum Nat (Nat × Option Nat))
  body : DC
  frz : Bool := false

def pDFunc (P : Program) (hint : Nat → Option AltT) (fn : Func) : Option DFunc := do
  let body ← fn.body
  let dc ← pD P hint body
  let rs ← fn.results.toList.mapM (pRes P)
  if fn.name == "runtime.NumGoroutine" then none else some { ntmps := fn.ntmps, results := rs, body := dc }

/-- A function, run for whatever is drawn: what it comes to. -/
def DRunP (C : DCalls) (Γ : Sums) (A : Tab) (fn : DFunc) (args : List AV) (H : Hp) (R : AV × Option Hp → Prop) : Prop :=
  wpDC C (lim Γ A) fn.body (args ++ List.replicate (fn.ntmps - args.length) avU) { l := H.l, d := none } [] fun x τ' H' _ => (x = .nrm ∨ x = .ret) ∧ ∃ v, resA fn.results τ' H' = some v ∧ R (settleZ fn.frz H v H')
/-- The functions, as they are resolved. -/
def TOKD (P : Program) (D : FuncId → Option DFunc) : Prop := ∀ (f : FuncId) (df : DFunc), D f = some df → ∃ hint fn, P.funcs[f]? = some fn ∧ pDFunc P hint fn = some { df with frz := false }

theorem entDP_sound (hC : DCOK P C) (hΓ : GOK P Γ) (hT : TOK P A) {hint : Nat → Option AltT} {fn : Func} {f : FuncId} {df : DFunc} (hf : P.funcs[f]? = some fn) (hp : pDFunc P hint fn = some { df with frz := false }) {args : List AV} {H : Hp} {R : AV × Option Hp → Prop} {ι : Io} {w : World} {cargs : Array Value}
    (hr : RelH (PCof P) ι H.l w) (ha : VRels ι (fzOf ι H.l w) args cargs.toList) (e : DRunP C Γ A df args H R) : Enters P (fun cv w' => ∃ v h, R (v, h) ∧ Left P ι H.l w v (h.getD H).l cv w') f cargs w := by
  have hsp : ∃ c, fn.body = some c ∧ pD P hint c = some df.body ∧ fn.ntmps = df.ntmps ∧ fn.results.toList.mapM (pRes P) = some df.results ∧ (fn.name == "runtime.NumGoroutine") = false := by
    simp only [pDFunc, Option.bind_eq_bind, Option.pure_def] at hp
    obtain ⟨c, hc, hp⟩ := Option.bind_eq_some_iff.1 hp
    obtain ⟨ac, hac, hp⟩ := Option.bind_eq_some_iff.1 hp
    obtain ⟨rs, hrs, hp⟩ := Option.bind_eq_some_iff.1 hp
    split at hp
    · simp at hp
    · rename_i hn
      simp only [Option.some.injEq, DFunc.mk.injEq] at hp
      obtain ⟨p1, p2, p3, _⟩ := hp
      exact ⟨c, hc, by rw [hac, p3], p1, by rw [hrs, p2], by simpa using hn⟩
  obtain ⟨c, hc, hac, hnt, hrs, hname⟩ := hsp
  refine ⟨?_, ?_⟩
  · simp only [callFunc, Sem.run_bind, run_program, Result.andThen_ok, hf, hname, Bool.false_eq_true, if_false, hc, Option.isNone_some]
    rfl
  · refine callsIn_of_wp_marks hf hc trivial ?_
    have hlen : args.length = cargs.size := by rw [ha.length]; simp
    have hat : AtD P ι H.l w w.heap.size (args ++ List.replicate (df.ntmps - args.length) avU) H.l [] { tmps := cargs ++ Array.replicate (fn.ntmps - cargs.size) undef, defers := [] } w := by
      refine ⟨ι, Stp.refl _ _ _, hr, ?_, ⟨[], rfl, by simp, by simp⟩, ⟨fun id I h => by simp at h, fun id id' I I' p p' h => by simp at h⟩⟩
      simp only [Array.toList_append, Array.toList_replicate]
      rw [hnt, hlen]
      exact ha.append (VRels.replicate (by simp only [VRel, undef]) _)
    refine wpDC_sound hC hΓ hT (Nat.le_refl _) c (H := { l := H.l, d := none }) hac hat (wpDC_le hΓ _ e) fun x τ' H' its' a' w' hat' hk => ?_
    obtain ⟨⟨hxx, u, hu, hR⟩, hle⟩ := hk
    have hfin : LeavesInM Fence.wide 0 P fn a'.tmps (fun
        | .returned v', w'' => ∃ v h, R (v, h) ∧ Left P ι H.l w v (h.getD H).l v' w''
        | _, _ => False) a'.defers .returning w' := by
      obtain ⟨ι', q1, q2, q3, ⟨Ds, e1, e2, e3⟩, _⟩ := hat'.ex
      rw [e1]
      refine leaves_sound (τ := τ') (H' := H') (fun w'' s hr' ht' => ?_) Ds e2 e3 q1 q2 q3
      obtain ⟨cv, r1, r2⟩ := results_sound hr' ht' hrs hu
      exact ⟨cv, r1, _, _, hR, settleZ_sound hr hle s hr' r2 rfl⟩
    rcases hxx with rfl | rfl
    · exact hfin
    · exact hfin

/-- Functions that may come to this or that, called by others. -/
def dCalls (hΓ : GOK P Γ) (D : FuncId → Option DFunc) : DCalls where
  run f args H R := ∃ df, D f = some df ∧ DRunP noC Γ A df args H R
  and := fun ⟨df, e, h⟩ ⟨df', e', h'⟩ => by
    rw [e] at e'; cases e'
    refine ⟨df, e, wpDC_mono _ (fun x τ' H' its k => ?_) (wpDC_and _ h h')⟩
    obtain ⟨⟨k0, v, k1, k2⟩, _, v', k3, k4⟩ := k
    rw [k1] at k3; cases k3
    exact ⟨k0, v, k1, k2, k4⟩
  le := fun {f args H R} ⟨df, e, h⟩ => by
    refine ⟨df, e, wpDC_mono _ (fun x τ' H' its k => ?_) (wpDC_le hΓ _ h)⟩
    obtain ⟨⟨k0, v, k1, k2⟩, hl⟩ := k
    refine ⟨k0, v, k1, k2, ?_⟩
    rcases es : settleZ df.frz H v H' with ⟨u, g⟩
    exact settleZ_le hl es
theorem dCalls_ok (hΓ : GOK P Γ) (hT : TOK P A) {D : FuncId → Option DFunc} (hD : TOKD P D) : DCOK P (dCalls (A := A) hΓ D) := fun {f args H R ι w cargs} hR hr ha => by
  obtain ⟨df, e, h⟩ := hR
  obtain ⟨hint, fn, h1, h2⟩ := hD _ _ e
  exact (entDP_sound noC_ok hΓ hT h1 h2 hr ha h).upon
end
end Go.Proofs.Eng
