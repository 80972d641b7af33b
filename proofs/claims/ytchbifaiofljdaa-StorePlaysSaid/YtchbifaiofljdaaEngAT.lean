/- The engine, part AT: the weakest precondition of code that is run for whatever is drawn; laws of such functions. -/
import Derived.Test.YtchbifaiofljdaaEngAS
set_option linter.unusedVariables false
set_option linter.unusedSimpArgs false
namespace Go.Proofs.Eng
open Go Go.RowKit Go.ChangeShapes Go.WideShapes Go.ChangeAt

abbrev PostR := AX → Rho → Hp → Its → Prop

def wpRO (C : DCalls) (E : Env) : List DOp → Rho → Hp → Its → (Rho → Hp → Its → Prop) → Prop
  | [], ρ, H, its, K => K ρ H its
  | .op o :: r, ρ, H, its, K => wpO E [(o, 0)] ρ H fun ρ' H' => wpRO C E r ρ' H' its K
  | .range d m :: r, ρ, H, its, K => ∃ id es clk, evR ρ m = .map id ∧ hget H id = some (.map es clk) ∧ (StOK es → wpRO C E r (updO ρ (some d) (.ptr H.l.length 0)) (hdead H) ((H.l.length, ⟨id, clk, [], none⟩) :: its) K)
  | .next d it :: r, ρ, H, its, K => ∃ id I es, evR ρ it = .ptr id 0 ∧ its.lookup id = some I ∧ hget H I.m = some (.map es I.clk) ∧
      (leftL es I.seen = [] → wpRO C E r (updO ρ (some d) (.tup [avBool false])) H its K) ∧
      ∀ e ∈ leftL es I.seen, wpRO C E r (updO ρ (some d) (.tup [avBool true, .lit e.1, e.2.1])) H ((id, { I with seen := I.seen ++ [e.2.2], last := some e }) :: its) K
  | .entry d it :: r, ρ, H, its, K => ∃ id I es e, evR ρ it = .ptr id 0 ∧ its.lookup id = some I ∧ hget H I.m = some (.map es I.clk) ∧ I.last = some e ∧ e ∈ es ∧ I.seen.getLast? = some e.2.2 ∧
      wpRO C E r (updO ρ (some d) (.tup [.lit e.1, e.2.1])) H its K
  | .call d f args :: r, ρ, H, its, K => ∃ R, C.run f (args.map (evR ρ)) H R ∧ ∀ v h, R (v, h) → wpRO C E r (updO ρ d v) (h.getD H) its K

def iterR (step : Rho → Hp → Its → PostR → Prop) (K : PostR) : Nat → Rho → Hp → Its → Prop
  | 0, _, _, _ => False
  | k + 1, ρ, H, its => step ρ H its fun x ρ' H' its' => match x with | .nrm => iterR step K k ρ' H' its' | x => K x ρ' H' its'

def postD (K : PostR) (its : Its) : Post := fun x ρ H => K x ρ H its
@[simp ↓] theorem postD_ap {K : PostR} {its : Its} {x : AX} {ρ : Rho} {H : Hp} : postD K its x ρ H = K x ρ H its := _root_.id rfl

def altsP (E : Env) : List AC → Rho → Hp → Its → PostR → Prop
  | [], _, _, _, _ => True
  | c :: l, ρ, H, its, K => wp E none c ρ H (fun x ρ' H' => x = .nrm ∧ K .nrm ρ' H' its) ∧ altsP E l ρ H its K

def wpR (C : DCalls) (E : Env) : DC → Rho → Hp → Its → PostR → Prop
  | .base c, ρ, H, its, K => wp E none c ρ H (postD K its)
  | .regD l, ρ, H, its, K => wpRO C E l ρ H its (K .nrm)
  | .alts l, ρ, H, its, K => l ≠ [] ∧ altsP E l ρ H its K
  | .seq a b, ρ, H, its, K => wpR C E a ρ H its fun x ρ' H' its' => match x with | .nrm => wpR C E b ρ' H' its' K | x => K x ρ' H' its'
  | .cond c a b, ρ, H, its, K => ∃ t, evR ρ c = avBool t ∧ (t = true → wpR C E a ρ H its K) ∧ (t = false → wpR C E b ρ H its K)
  | .block id b, ρ, H, its, K => wpR C E b ρ H its fun x ρ' H' its' => match x with | .exit i => if i = id then K .nrm ρ' H' its' else K (.exit i) ρ' H' its' | x => K x ρ' H' its'
  | .loop b, ρ, H, its, K => ∃ k, iterR (fun ρ H its K => wpR C E b ρ H its K) K k ρ H its

/-- Are all temporaries that are written below n? -/
def dstDO (n : Nat) : DOp → Bool
  | .op o => dstO n o.dst
  | .range d _ => decide (d < n)
  | .next d _ => decide (d < n)
  | .entry d _ => decide (d < n)
  | .call d _ _ => dstO n d
def dstDC (n : Nat) : DC → Bool
  | .base c => dstOK n c
  | .regD l => l.all (dstDO n)
  | .alts l => l.all (dstOK n)
  | .seq a b => dstDC n a && dstDC n b
  | .cond _ a b => dstDC n a && dstDC n b
  | .block _ b => dstDC n b
  | .loop b => dstDC n b

section
variable {Γ : Sums} {A : Tab} {C : DCalls}

theorem wpRO_sound : ∀ {l : List DOp} {τ : List AV} {H : Hp} {its : Its} {K : Rho → Hp → Its → Prop}, l.all (dstDO τ.length) = true → wpRO C (lim Γ A) l (rho τ) H its K → wpDO C (lim Γ A) l τ H its fun τ' H' its' => τ'.length = τ.length ∧ K (rho τ') H' its'
  | [], τ, H, its, K, _, h => ⟨rfl, h⟩
  | .op o :: r, τ, H, its, K, hd, h => by
    simp only [List.all_cons, Bool.and_eq_true, dstDO] at hd
    obtain ⟨τ', H', e1, e2, e3⟩ := wpO_sound (R := []) (by simpa using hd.1) (by simp) h
    simp only [execQ] at e1
    split at e1
    · split at e1
      · rename_i v g hg
        simp only [Option.some.injEq, Prod.mk.injEq] at e1
        obtain ⟨rfl, rfl⟩ := e1
        refine ⟨v, g, ?_, ?_⟩
        · simpa only [actQ] using hg
        · refine wpDO_mono (fun τ2 H2 its2 k => ⟨by rw [k.1, e2], k.2⟩) (wpRO_sound (l := r) (by rw [e2]; exact hd.2) e3)
      · simp at e1
    · simp at e1
  | .range d m :: r, τ, H, its, K, hd, h => by
    simp only [List.all_cons, Bool.and_eq_true, dstDO, decide_eq_true_eq] at hd
    obtain ⟨id, es, clk, e1, e2, h⟩ := h
    refine ⟨id, es, clk, by rw [aeval_rho]; exact e1, e2, fun s => ?_⟩
    have h := h s
    rw [← rho_aput (fun n e => by cases e; exact hd.1)] at h
    exact wpDO_mono (fun τ2 H2 its2 k => ⟨by rw [k.1, aput_length], k.2⟩) (wpRO_sound (l := r) (by rw [aput_length]; exact hd.2) h)
  | .next d it :: r, τ, H, its, K, hd, h => by
    simp only [List.all_cons, Bool.and_eq_true, dstDO, decide_eq_true_eq] at hd
    obtain ⟨id, I, es, e1, e2, e3, h1, h2⟩ := h
    refine ⟨id, I, es, by rw [aeval_rho]; exact e1, e2, e3, fun e => ?_, fun e he => ?_⟩
    · have h := h1 e
      rw [← rho_aput (fun n e => by cases e; exact hd.1)] at h
      exact wpDO_mono (fun τ2 H2 its2 k => ⟨by rw [k.1, aput_length], k.2⟩) (wpRO_sound (l := r) (by rw [aput_length]; exact hd.2) h)
    · have h := h2 e he
      rw [← rho_aput (fun n e => by cases e; exact hd.1)] at h
      exact wpDO_mono (fun τ2 H2 its2 k => ⟨by rw [k.1, aput_length], k.2⟩) (wpRO_sound (l := r) (by rw [aput_length]; exact hd.2) h)
  | .entry d it :: r, τ, H, its, K, hd, h => by
    simp only [List.all_cons, Bool.and_eq_true, dstDO, decide_eq_true_eq] at hd
    obtain ⟨id, I, es, e, e1, e2, e3, e4, e5, e6, h⟩ := h
    refine ⟨id, I, es, e, by rw [aeval_rho]; exact e1, e2, e3, e4, e5, e6, ?_⟩
    rw [← rho_aput (fun n e => by cases e; exact hd.1)] at h
    exact wpDO_mono (fun τ2 H2 its2 k => ⟨by rw [k.1, aput_length], k.2⟩) (wpRO_sound (l := r) (by rw [aput_length]; exact hd.2) h)
  | .call d f args :: r, τ, H, its, K, hd, h => by
    simp only [List.all_cons, Bool.and_eq_true, dstDO] at hd
    obtain ⟨R, hR, h⟩ := h
    have he : args.map (evR (rho τ)) = args.map (aeval τ) := by rw [aeval_rho]
    refine ⟨R, by rw [← he]; exact hR, fun v g hv => ?_⟩
    have h := h v g hv
    rw [← rho_aput (fun n e => by subst e; simpa [dstO] using hd.1)] at h
    exact wpDO_mono (fun τ2 H2 its2 k => ⟨by rw [k.1, aput_length], k.2⟩) (wpRO_sound (l := r) (by rw [aput_length]; exact hd.2) h)

theorem altsP_mem {E : Env} : ∀ {l : List AC} {ρ : Rho} {H : Hp} {its : Its} {K : PostR}, altsP E l ρ H its K → ∀ c ∈ l, wp E none c ρ H (fun x ρ' H' => x = .nrm ∧ K .nrm ρ' H' its)
  | [], ρ, H, its, K, h, c, hc => by simp at hc
  | d :: l, ρ, H, its, K, h, c, hc => by
    rcases List.mem_cons.1 hc with rfl | hc
    · exact h.1
    · exact altsP_mem h.2 c hc

theorem wpR_sound : ∀ (c : DC) {τ : List AV} {H : Hp} {its : Its} {K : PostR}, dstDC τ.length c = true → wpR C (lim Γ A) c (rho τ) H its K → wpDC C (lim Γ A) c τ H its fun x τ' H' its' => τ'.length = τ.length ∧ K x (rho τ') H' its'
  | .base c, τ, H, its, K, hd, h => by
    obtain ⟨x, τ', H', e1, e2, e3⟩ := wp_sound c hd h
    exact ⟨x, τ', H', e1, e2, e3⟩
  | .regD l, τ, H, its, K, hd, h => wpRO_sound hd h
  | .alts l, τ, H, its, K, hd, h => ⟨h.1, fun c hc => by
    simp only [dstDC, List.all_eq_true] at hd
    obtain ⟨x, τ', H', e1, e2, e3, e4⟩ := wp_sound c (hd c hc) (altsP_mem h.2 c hc)
    subst e3
    exact ⟨τ', H', e1, e2, e4⟩⟩
  | .seq a b, τ, H, its, K, hd, h => by
    simp only [dstDC, Bool.and_eq_true] at hd
    refine wpDC_mono a (fun x τ' H' its' k => ?_) (wpR_sound a hd.1 h)
    cases x with
    | nrm => exact wpDC_mono b (fun _ _ _ _ j => ⟨by rw [j.1, k.1], j.2⟩) (wpR_sound b (by rw [k.1]; exact hd.2) k.2)
    | ret => exact k
    | exit i => exact k
  | .cond c a b, τ, H, its, K, hd, h => by
    simp only [dstDC, Bool.and_eq_true] at hd
    obtain ⟨t, e, h1, h2⟩ := h
    exact ⟨t, by rw [aeval_rho]; exact e, fun k => wpR_sound a hd.1 (h1 k), fun k => wpR_sound b hd.2 (h2 k)⟩
  | .block id b, τ, H, its, K, hd, h => by
    refine wpDC_mono b (fun x τ' H' its' k => ?_) (wpR_sound b hd h)
    cases x with
    | nrm => exact k
    | ret => exact k
    | exit i =>
      simp only [] at k ⊢
      by_cases hi : i = id
      · rw [if_pos hi] at k ⊢; exact k
      · rw [if_neg hi] at k ⊢; exact k
  | .loop b, τ, H, its, K, hd, h => by
    obtain ⟨k, h⟩ := h
    refine ⟨k, ?_⟩
    have key : ∀ (k : Nat) {n : Nat} {τ : List AV} {H : Hp} {its : Its}, τ.length = n → dstDC n b = true → iterR (fun ρ H its K => wpR C (lim Γ A) b ρ H its K) K k (rho τ) H its →
        iterD (fun τ H its K => wpDC C (lim Γ A) b τ H its K) (fun x τ' H' its' => τ'.length = n ∧ K x (rho τ') H' its') k τ H its := by
      intro k
      induction k with
      | zero => intro n τ H its _ _ h; exact h
      | succ k ih =>
        intro n τ H its hn hd h
        simp only [iterR, iterD] at h ⊢
        refine wpDC_mono b (fun x τ' H' its' j => ?_) (wpR_sound b (by rw [hn]; exact hd) h)
        cases x with
        | nrm => exact ih (j.1.trans hn) hd j.2
        | ret => exact ⟨j.1.trans hn, j.2⟩
        | exit i => exact ⟨j.1.trans hn, j.2⟩
    exact key k rfl hd h
end

/-! ### Step by step -/
section
variable {E : Env} {C : DCalls} {ρ : Rho} {H : Hp} {its : Its}
def seqD (C : DCalls) (E : Env) (b : DC) (K : PostR) : PostR := fun x ρ' H' its' => match x with | .nrm => wpR C E b ρ' H' its' K | x => K x ρ' H' its'
@[simp ↓] theorem seqD_nrm {b : DC} {K : PostR} : seqD C E b K .nrm ρ H its = wpR C E b ρ H its K := _root_.id rfl
@[simp ↓] theorem seqD_ret {b : DC} {K : PostR} : seqD C E b K .ret ρ H its = K .ret ρ H its := _root_.id rfl
@[simp ↓] theorem seqD_exit {b : DC} {K : PostR} {i : Nat} : seqD C E b K (.exit i) ρ H its = K (.exit i) ρ H its := _root_.id rfl
def blockD (id : Nat) (K : PostR) : PostR := fun x ρ' H' its' => match x with | .exit i => if i = id then K .nrm ρ' H' its' else K (.exit i) ρ' H' its' | x => K x ρ' H' its'
@[simp ↓] theorem blockD_nrm {id : Nat} {K : PostR} : blockD id K .nrm ρ H its = K .nrm ρ H its := _root_.id rfl
@[simp ↓] theorem blockD_ret {id : Nat} {K : PostR} : blockD id K .ret ρ H its = K .ret ρ H its := _root_.id rfl
@[simp ↓] theorem blockD_exit {id i : Nat} {K : PostR} : blockD id K (.exit i) ρ H its = if i = id then K .nrm ρ H its else K (.exit i) ρ H its := _root_.id rfl
@[simp ↓] theorem wpR_base {c : AC} {K : PostR} : wpR C E (.base c) ρ H its K = wp E none c ρ H (postD K its) := _root_.id rfl
@[simp ↓] theorem wpR_seq {a b : DC} {K : PostR} : wpR C E (.seq a b) ρ H its K = wpR C E a ρ H its (seqD C E b K) := _root_.id rfl
@[simp ↓] theorem wpR_block {id : Nat} {b : DC} {K : PostR} : wpR C E (.block id b) ρ H its K = wpR C E b ρ H its (blockD id K) := _root_.id rfl
@[simp ↓] theorem wpR_cond {c : Opd} {a b : DC} {K : PostR} : wpR C E (.cond c a b) ρ H its K = bindB (evR ρ c) fun t => iteP t (wpR C E a ρ H its K) (wpR C E b ρ H its K) := _root_.id rfl
def altP (K : PostR) (its : Its) : Post := fun x ρ' H' => x = .nrm ∧ K .nrm ρ' H' its
@[simp ↓] theorem altP_nrm {K : PostR} : altP K its .nrm ρ H = K .nrm ρ H its := by simp [altP]
theorem wpRO_mono : ∀ {l : List DOp} {ρ : Rho} {H : Hp} {its : Its} {K K' : Rho → Hp → Its → Prop}, (∀ ρ H its, K ρ H its → K' ρ H its) → wpRO C E l ρ H its K → wpRO C E l ρ H its K'
  | [], ρ, H, its, K, K', hk, h => hk _ _ _ h
  | .op o :: r, ρ, H, its, K, K', hk, h => wpO_mono (fun ρ H h => wpRO_mono hk h) h
  | .range d m :: r, ρ, H, its, K, K', hk, h => by
    obtain ⟨id, es, clk, e1, e2, h⟩ := h
    exact ⟨id, es, clk, e1, e2, fun s => wpRO_mono hk (h s)⟩
  | .next d it :: r, ρ, H, its, K, K', hk, h => by
    obtain ⟨id, I, es, e1, e2, e3, h1, h2⟩ := h
    exact ⟨id, I, es, e1, e2, e3, fun e => wpRO_mono hk (h1 e), fun e he => wpRO_mono hk (h2 e he)⟩
  | .entry d it :: r, ρ, H, its, K, K', hk, h => by
    obtain ⟨id, I, es, e, e1, e2, e3, e4, e5, e6, h⟩ := h
    exact ⟨id, I, es, e, e1, e2, e3, e4, e5, e6, wpRO_mono hk h⟩
  | .call d f args :: r, ρ, H, its, K, K', hk, h => by
    obtain ⟨R, hR, h⟩ := h
    exact ⟨R, hR, fun v g hv => wpRO_mono hk (h v g hv)⟩

theorem wpR_mono : ∀ (c : DC) {ρ : Rho} {H : Hp} {its : Its} {K K' : PostR}, (∀ x ρ H its, K x ρ H its → K' x ρ H its) → wpR C E c ρ H its K → wpR C E c ρ H its K'
  | .base c, ρ, H, its, K, K', hk, h => wp_mono c (fun x ρ H h => hk x ρ H its h) h
  | .regD l, ρ, H, its, K, K', hk, h => wpRO_mono (fun ρ H its => hk .nrm ρ H its) h
  | .alts l, ρ, H, its, K, K', hk, h => by
    refine ⟨h.1, ?_⟩
    have h2 := h.2
    clear h
    induction l with
    | nil => trivial
    | cons c l ih => exact ⟨wp_mono c (fun x ρ H h => ⟨h.1, hk _ _ _ _ h.2⟩) h2.1, ih h2.2⟩
  | .seq a b, ρ, H, its, K, K', hk, h => by
    refine wpR_mono a (fun x ρ H its h => ?_) h
    cases x with
    | nrm => exact wpR_mono b hk h
    | ret => exact hk _ _ _ _ h
    | exit i => exact hk _ _ _ _ h
  | .cond c a b, ρ, H, its, K, K', hk, h => by
    obtain ⟨t, e, h1, h2⟩ := h
    exact ⟨t, e, fun k => wpR_mono a hk (h1 k), fun k => wpR_mono b hk (h2 k)⟩
  | .block id b, ρ, H, its, K, K', hk, h => by
    refine wpR_mono b (fun x ρ H its h => ?_) h
    cases x with
    | nrm => exact hk _ _ _ _ h
    | ret => exact hk _ _ _ _ h
    | exit i =>
      simp only [] at h ⊢
      by_cases hi : i = id
      · rw [if_pos hi] at h ⊢; exact hk _ _ _ _ h
      · rw [if_neg hi] at h ⊢; exact hk _ _ _ _ h
  | .loop b, ρ, H, its, K, K', hk, h => by
    obtain ⟨k, h⟩ := h
    refine ⟨k, ?_⟩
    have key : ∀ (k : Nat) (ρ : Rho) (H : Hp) (its : Its), iterR (fun ρ H its K => wpR C E b ρ H its K) K k ρ H its → iterR (fun ρ H its K => wpR C E b ρ H its K) K' k ρ H its := by
      intro k
      induction k with
      | zero => intro ρ H its h; exact h
      | succ k ih =>
        intro ρ H its h
        simp only [iterR] at h ⊢
        refine wpR_mono b (fun x ρ H its h => ?_) h
        cases x with
        | nrm => exact ih _ _ _ h
        | ret => exact hk _ _ _ _ h
        | exit i => exact hk _ _ _ _ h
    exact key k _ _ _ h

@[simp ↓] theorem wpR_regD {l : List DOp} {K : PostR} : wpR C E (.regD l) ρ H its K = wpRO C E l ρ H its (K .nrm) := _root_.id rfl
@[simp ↓] theorem wpRO_nil {K : Rho → Hp → Its → Prop} : wpRO C E [] ρ H its K = K ρ H its := _root_.id rfl
def contD (C : DCalls) (E : Env) (r : List DOp) (its : Its) (K : Rho → Hp → Its → Prop) : Rho → Hp → Prop := fun ρ' H' => wpRO C E r ρ' H' its K
@[simp ↓] theorem contD_ap {r : List DOp} {K : Rho → Hp → Its → Prop} : contD C E r its K ρ H = wpRO C E r ρ H its K := _root_.id rfl
@[simp ↓] theorem wpRO_op {o : AOper} {r : List DOp} {K : Rho → Hp → Its → Prop} : wpRO C E (.op o :: r) ρ H its K = wpL E [o] ρ H (contD C E r its K) := _root_.id rfl
theorem wpRO_range {d : Nat} {m : Opd} {r : List DOp} {K : Rho → Hp → Its → Prop} {id clk : Nat} {es : List (Value × AV × Nat)} (h1 : evR ρ m = .map id) (h2 : hget H id = some (.map es clk)) (h : StOK es → wpRO C E r (updO ρ (some d) (.ptr H.l.length 0)) (hdead H) ((H.l.length, ⟨id, clk, [], none⟩) :: its) K) : wpRO C E (.range d m :: r) ρ H its K := ⟨id, es, clk, h1, h2, h⟩
theorem wpRO_next {d : Nat} {it : Opd} {r : List DOp} {K : Rho → Hp → Its → Prop} {id : Nat} {I : Itr} {es : List (Value × AV × Nat)} (h1 : evR ρ it = .ptr id 0) (h2 : its.lookup id = some I) (h3 : hget H I.m = some (.map es I.clk))
    (h4 : leftL es I.seen = [] → wpRO C E r (updO ρ (some d) (.tup [avBool false])) H its K) (h5 : ∀ e ∈ leftL es I.seen, wpRO C E r (updO ρ (some d) (.tup [avBool true, .lit e.1, e.2.1])) H ((id, { I with seen := I.seen ++ [e.2.2], last := some e }) :: its) K) : wpRO C E (.next d it :: r) ρ H its K := ⟨id, I, es, h1, h2, h3, h4, h5⟩
theorem wpRO_entry {d : Nat} {it : Opd} {r : List DOp} {K : Rho → Hp → Its → Prop} {id : Nat} {I : Itr} {es : List (Value × AV × Nat)} {e : Value × AV × Nat} (h1 : evR ρ it = .ptr id 0) (h2 : its.lookup id = some I) (h3 : hget H I.m = some (.map es I.clk)) (h4 : I.last = some e) (h5 : e ∈ es) (h6 : I.seen.getLast? = some e.2.2)
    (h : wpRO C E r (updO ρ (some d) (.tup [.lit e.1, e.2.1])) H its K) : wpRO C E (.entry d it :: r) ρ H its K := ⟨id, I, es, e, h1, h2, h3, h4, h5, h6, h⟩
theorem wpRO_call {d : Option Nat} {f : FuncId} {args : List Opd} {r : List DOp} {K : Rho → Hp → Its → Prop} {R : AV × Option Hp → Prop} (h1 : C.run f (args.map (evR ρ)) H R) (h : ∀ v g, R (v, g) → wpRO C E r (updO ρ d v) (g.getD H) its K) : wpRO C E (.call d f args :: r) ρ H its K := ⟨R, h1, h⟩
/-- What a round owes. -/
def roundD (I : Nat → Rho → Hp → Its → Prop) (n : Nat) (K : PostR) : PostR := fun x ρ' H' its' => match x with | .nrm => ∃ m, m < n ∧ I m ρ' H' its' | x => K x ρ' H' its'
@[simp ↓] theorem roundD_nrm {I : Nat → Rho → Hp → Its → Prop} {n : Nat} {K : PostR} : roundD I n K .nrm ρ H its = ∃ m, m < n ∧ I m ρ H its := _root_.id rfl
@[simp ↓] theorem roundD_ret {I : Nat → Rho → Hp → Its → Prop} {n : Nat} {K : PostR} : roundD I n K .ret ρ H its = K .ret ρ H its := _root_.id rfl
@[simp ↓] theorem roundD_exit {I : Nat → Rho → Hp → Its → Prop} {n i : Nat} {K : PostR} : roundD I n K (.exit i) ρ H its = K (.exit i) ρ H its := _root_.id rfl
/-- A loop by an invariant that falls. -/
theorem wpR_round {b : DC} {K : PostR} (I : Nat → Rho → Hp → Its → Prop) {n : Nat} (h0 : I n ρ H its) (hs : ∀ n ρ H its, I n ρ H its → wpR C E b ρ H its (roundD I n K)) : wpR C E (.loop b) ρ H its K := by
  refine ⟨n + 1, ?_⟩
  have bound : ∀ (j n : Nat) (ρ : Rho) (H : Hp) (its : Its), n < j → I n ρ H its → iterR (fun ρ H its K => wpR C E b ρ H its K) K j ρ H its := by
    intro j
    induction j with
    | zero => intro n ρ H its hn _; omega
    | succ j ihj =>
      intro n ρ H its hn hI
      simp only [iterR]
      refine wpR_mono b (fun x ρ H its k => ?_) (hs n ρ H its hI)
      cases x with
      | nrm =>
        obtain ⟨m, hm, hI⟩ := k
        exact ihj m ρ H its (by omega) hI
      | ret => exact k
      | exit i => exact k
  exact bound (n + 1) n ρ H its (by omega) h0

@[simp ↓] theorem wpA_bsliceD {e : TypeId} {sz len : Nat} {lay : Option Nat} {z : List AV} {ps : List (Nat × Nat × Opd)} {Q : AV → Hp → Prop} : wpA E 1 (.bslice e sz lay len z ps) ρ H Q =
    bindO (fillA (repl len z) (ps.map fun (o, s, x) => (o, s, evR ρ x))) fun cs => andQ ((chunk sz lay len cs).all (fun y => y.good && y.cells.length == sz && (lay.isSome || y.one)) = true) (Q (.ra sz H.l.length 0 len) (halloc H (.arr sz (chunk sz lay len cs) e))) := by
  rw [← wpA_bslice]
  refine wpA_one_zero ?_
  simp only [aopER, aopR]
  cases hf : fillA (repl len z) (ps.map fun (o, s, x) => (o, s, evR ρ x)) with
  | none => exact .inl fun d => rfl
  | some cs =>
    simp only [Option.bind_some]
    by_cases hc : (chunk sz lay len cs).all (fun y => y.good && y.cells.length == sz && (lay.isSome || y.one)) = true
    · simp only [hc, if_true]
      exact .inr ⟨_, _, fun d => rfl⟩
    · simp only [hc, if_false]
      exact .inl fun d => rfl
end

/-! ### Functions and laws -/
section
variable {P : Program} {W : World} {Γ : Sums} {A : Tab} {C : DCalls}

/-- A function's end. -/
def EndsD (rs : List (Sum Nat (Nat × Option Nat))) (fz : Bool) (H : Hp) (R : AV × Option Hp → Prop) : PostR := fun x ρ H' _ => Ends rs fz H R x ρ H'
@[simp ↓] theorem EndsD_nrm {rs : List (Sum Nat (Nat × Option Nat))} {z : Bool} {H : Hp} {R : AV × Option Hp → Prop} {ρ : Rho} {H' : Hp} {its : Its} : EndsD rs z H R .nrm ρ H' its = bindO (resR rs ρ H') fun v => R (settleZ z H v H') := Ends_nrm
@[simp ↓] theorem EndsD_ret {rs : List (Sum Nat (Nat × Option Nat))} {z : Bool} {H : Hp} {R : AV × Option Hp → Prop} {ρ : Rho} {H' : Hp} {its : Its} : EndsD rs z H R .ret ρ H' its = bindO (resR rs ρ H') fun v => R (settleZ z H v H') := Ends_ret
@[simp ↓] theorem EndsD_exit {rs : List (Sum Nat (Nat × Option Nat))} {z : Bool} {H : Hp} {R : AV × Option Hp → Prop} {ρ : Rho} {H' : Hp} {its : Its} {i : Nat} : EndsD rs z H R (.exit i) ρ H' its = False := Ends_exit

def okD (fn : DFunc) (k : Nat) : Bool := dstDC (k + (fn.ntmps - k)) fn.body

theorem DRunP.of {fn : DFunc} {args : List AV} {H : Hp} {R : AV × Option Hp → Prop} (hd : okD fn args.length = true) (h : wpR C (lim Γ A) fn.body (rho0 args) { l := H.l, d := none } [] (EndsD fn.results fn.frz H R)) : DRunP C Γ A fn args H R := by
  rw [← rho_args args (fn.ntmps - args.length)] at h
  refine wpDC_mono _ (fun x τ' H' its k => ?_) (wpR_sound fn.body (by simpa [okD] using hd) h)
  obtain ⟨_, hx, v, h1, h2⟩ := k
  exact ⟨hx, v, by rw [resA_rho, h1], h2⟩

theorem calls_d (hC : DCOK P C) (hΓ : GOK P Γ) (hT : TOK P A) {hint : Nat → Option AltT} {fn : Func} {f : FuncId} {df : DFunc} (hf : P.funcs[f]? = some fn) (hp : pDFunc P hint fn = some { df with frz := false }) {xs : List AV} {args : Array Value} {b : Bool} (hx : VRels io0 (fz0 W) xs args.toList)
    (e : DRunP C Γ A df xs ⟨[], none⟩ fun r => r.1 = avBool b) : Calls P f args W fun en W' => en = .returned (.bool b) ∧ Below W.heap.size W W' := by
  obtain ⟨_, h2⟩ := entDP_sound (H := ⟨[], none⟩) hC hΓ hT hf hp relH0 hx e
  refine (callsIn_wide.1 h2).mono fun en W' he => ?_
  cases en with
  | panicked c => exact he.elim
  | outgrown => exact he.elim
  | returned v =>
    obtain ⟨u, g, hu, ι', s, _, hv⟩ := he
    simp only at hu
    subst hu
    simp only [VRel] at hv
    subst hv
    refine ⟨rfl, s.os, s.tape, s.output, s.size, fun k hk => (s.frame k hk ?_).2⟩
    rintro ⟨i, o, p, h, _⟩
    simp at h

/-- A law that comes to true whatever is drawn. -/
theorem law_limD {H : Type} {enc : TypeId × Value → H} {fn : Func} {s : ChangeSpec} (hC : DCOK P C) (hΓ : GOK P Γ) (hT : TOK P A) (hl : laidOutB P = true) {f : FuncId} {hint : Nat → Option AltT} {df : DFunc} (hf : P.funcs[f]? = some fn) (hp : pDFunc P hint fn = some { df with frz := false })
    {args : Array Value} {ds gs : List (DataW H)} {before : List MemPlace} {tb : TypeId}
    (hs0 : s.vars = []) (hrt : fn.resultTypes = #[tb]) (htb : P.underlying tb = some .bool) (hr : (fn.params.toList.all fun t => P.readableRec t && decide (t < P.types.size)) = true)
    (hW : DataW.Whole enc P fn.params.toList s.vars false W args.toList ds gs before) (hs : (s.fn H (ds ++ gs)).results = [.lit (.bool true)] ∧ (s.fn H (ds ++ gs)).args = ds ∧ (s.fn H (ds ++ gs)).vars = [])
    {xs : List AV} (hx : VRels io0 (fz0 W) xs args.toList) (e : DRunP C Γ A df xs ⟨[], none⟩ fun r => r.1 = avBool true) :
    Calls P f args W fun en W' => ∃ v, en = .returned v ∧ s.post enc P fn false true false false W args v W' := by
  refine (calls_d hC hΓ hT hf hp hx e).mono fun en W' ⟨he, hb⟩ => ⟨_, he, ?_⟩
  have hW' := hW
  obtain ⟨p, q, hA, hV, rfl, _, _⟩ := hW
  refine ⟨ds, gs, p ++ q, [], p, [], hW', ?_, ?_, ?_, hb.frame _, fun hh => by cases hh⟩
  · rw [hs.1, hrt]
    exact trodAll_mk1 (shut_bool htb true)
  · rw [hs.2.1]
    exact trodAll_stays hl hb hr hA (fun x hx => hW'.lt x (by simp [hx]))
  · rw [hs.2.2, hs0]
    exact rfl
end
end Go.Proofs.Eng
