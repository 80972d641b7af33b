/- The engine, part S: regions. -/
import Derived.Test.YtchbifaiofljdaaEngR
set_option linter.unusedVariables false
set_option linter.unusedSimpArgs false
namespace Go.Proofs.Eng
open Go Go.RowKit

section
variable {P : Program} {E : Env} {ro : Option Nat}

theorem mapM_get {α β : Type} {f : α → Option β} : ∀ {xs : List α} {ys : List β}, xs.mapM f = some ys → ∀ i : Nat, (xs[i]?).bind f = ys[i]?
  | [], ys, h, i => by simp at h; subst h; simp
  | x :: xs, ys, h, i => by
    obtain ⟨y, r, h1, h2, rfl⟩ := mapM_cons_some h
    cases i with
    | zero => simpa using h1
    | succ i => simpa using mapM_get h2 i

theorem mapM_length {α β : Type} {f : α → Option β} : ∀ {xs : List α} {ys : List β}, xs.mapM f = some ys → ys.length = xs.length
  | [], ys, h => by simp at h; subst h; simp
  | x :: xs, ys, h => by
    obtain ⟨y, r, h1, h2, rfl⟩ := mapM_cons_some h
    simp [mapM_length h2]

/-- The deferred calls of an activation: marks of loops over functions, nothing else. -/
def DfOK (base : Nat) (ι : List Pl) (L : HL) (w : World) (ds : List Deferred) : Prop :=
  ∃ Ds : List Nat, ds = Ds.map (fun D => { target := .collected D, args := #[] }) ∧ Ds.Nodup ∧ ∀ D ∈ Ds, base ≤ D ∧ w.heap[D]? = some (.deferred (some [])) ∧ ¬ Owned ι L D

theorem DfOK.step {base : Nat} {ι ι' : List Pl} {L L' : HL} {w w' : World} {ds : List Deferred} (h : DfOK base ι L w ds) (s : Stp ι L w ι' L' w') : DfOK base ι' L' w' ds := by
  obtain ⟨Ds, e, hn, h⟩ := h
  refine ⟨Ds, e, hn, fun D hD => ?_⟩
  obtain ⟨h1, h2, h3⟩ := h D hD
  have := s.frame D (Array.getElem?_eq_some_iff.1 h2).1 h3
  exact ⟨h1, this.2.trans h2, this.1⟩

/-- The state of an activation beside the abstract one, and how it came there. -/
structure At (P : Program) (ι₀ : List Pl) (L₀ : HL) (w₀ : World) (ds : Nat) (τ : List AV) (L : HL) (a : Act) (w : World) : Prop where
  ex : ∃ ι, Stp ι₀ L₀ w₀ ι L w ∧ RelH (PCof P) ι L w ∧ VRels ι (fzOf ι L w) τ a.tmps.toList ∧ DfOK ds ι L w a.defers

theorem ops_sound {ops : Array Oper} {Q : Exit → Act → World → Prop} (hE : EOK P E) : ∀ (is : List Nat) (ls : List AOper) {ι₀ : List Pl} {L₀ : HL} {w₀ : World} {ds : Nat} {τ τ' : List AV} {H H' : Hp} {a : Act} {w : World},
    (∀ k : Nat, ((is[k]?).bind fun i => (ops[i]?).bind (pOperE P ops)) = ls[k]?) → is.length = ls.length → At P ι₀ L₀ w₀ ds τ H.l a w → execOps E ls τ H = some (τ', H') →
    (∀ a' w', At P ι₀ L₀ w₀ ds τ' H'.l a' w' → Q .normal a' w') → wpOpsIn (Fr ro) 0 P ops Q is a w
  | [], ls, ι₀, L₀, w₀, ds, τ, τ', H, H', a, w, hm, hl, hat, h, hQ => by
    have : ls = [] := by cases ls with | nil => rfl | cons => simp at hl
    subst this
    simp only [execOps, Option.some.injEq, Prod.mk.injEq] at h
    obtain ⟨rfl, rfl⟩ := h
    simpa [wpOpsIn] using hQ a w hat
  | i :: is, ls, ι₀, L₀, w₀, ds, τ, τ', H, H', a, w, hm, hl, hat, h, hQ => by
    cases ls with
    | nil => simp at hl
    | cons ao ls =>
      have h0 := hm 0
      simp only [List.getElem?_cons_zero, Option.bind_some] at h0
      obtain ⟨o, ho, hp⟩ := Option.bind_eq_some_iff.1 h0
      simp only [execOps] at h
      split at h
      · rename_i v g hact
        rw [wpOpsIn_cons]
        obtain ⟨ι, q1, q2, q3, q4⟩ := hat.ex
        refine actO_sound hE ho hp q2 q3 hact fun ι' a' w' r1 r2 r3 r4 => ?_
        exact ops_sound hE is ls (fun k => by simpa using hm (k + 1)) (by simpa using hl) ⟨⟨ι', q1.trans r1, r2, r3, by rw [r4]; exact q4.step r1⟩⟩ h hQ
      · simp at h

/-! ### In any order -/
def Closed (ops : Array Oper) (listed : Array Bool) : Prop := ∀ i o, ops[i]? = some o → listed.getD i true = true → ∀ e ∈ o.after.toList, Region.binds .any e = true → listed.getD e.on false = true

theorem mask_fold {tab : List Nat} {j : Nat} : ∀ {es : List Edge} {s : Nat}, (es.foldl (fun s e => if Region.binds .any e then s ||| 2 ^ e.on ||| tab.getD e.on 0 else s) s).testBit j = true →
    s.testBit j = true ∨ ∃ e ∈ es, Region.binds .any e = true ∧ (e.on = j ∨ (tab.getD e.on 0).testBit j = true)
  | [], s, h => .inl h
  | e :: es, s, h => by
    simp only [List.foldl_cons] at h
    rcases mask_fold h with h | ⟨e', h1, h2⟩
    · split at h
      · rename_i hb
        rw [Nat.testBit_or, Nat.testBit_or] at h
        simp only [Bool.or_eq_true] at h
        rcases h with (h | h) | h
        · exact .inl h
        · rw [Nat.testBit_two_pow] at h
          exact .inr ⟨e, by simp, hb, .inl (by simpa using h)⟩
        · exact .inr ⟨e, by simp, hb, .inr h⟩
      · exact .inl h
    · exact .inr ⟨e', by simp [h1], h2⟩

theorem mask_ok {ops : Array Oper} {listed : Array Bool} (hc : Closed ops listed) : ∀ (r : List Oper) (t : List Nat), (∀ k, r[k]? = ops[t.length + k]?) →
    (∀ k o, k < t.length → ops[k]? = some o → (∀ e ∈ o.after.toList, Region.binds .any e = true → listed.getD e.on false = true) → ∀ j, (t.getD k 0).testBit j = true → listed.getD j false = true) →
    ∀ k o, ops[k]? = some o → (∀ e ∈ o.after.toList, Region.binds .any e = true → listed.getD e.on false = true) → ∀ j, ((maskTab r t).getD k 0).testBit j = true → listed.getD j false = true
  | [], t, hr, ht, k, o, ho, he, j, hj => by
    by_cases hk : k < t.length
    · exact ht k o hk ho he j hj
    · simp only [maskTab] at hj
      rw [List.getD_eq_getElem?_getD, List.getElem?_eq_none (by omega)] at hj
      simp at hj
  | x :: r, t, hr, ht, k, o, ho, he, j, hj => by
    simp only [maskTab] at hj
    refine mask_ok hc r (t ++ [maskOf t x]) (fun k => ?_) ?_ k o ho he j hj
    · have := hr (k + 1)
      simp only [List.getElem?_cons_succ] at this
      rw [this, List.length_append]
      simp only [List.length_cons, List.length_nil]
      congr 1
      omega
    · intro k o hk ho he j hj
      by_cases hlt : k < t.length
      · rw [List.getD_eq_getElem?_getD, List.getElem?_append_left hlt, ← List.getD_eq_getElem?_getD] at hj
        exact ht k o hlt ho he j hj
      · have hk' : k = t.length := by simp at hk; omega
        subst hk'
        have hx := hr 0
        simp only [List.getElem?_cons_zero, Nat.add_zero] at hx
        rw [ho] at hx
        cases hx
        rw [List.getD_eq_getElem?_getD] at hj
        simp only [List.getElem?_append_right (Nat.le_refl _), Nat.sub_self, List.getElem?_cons_zero, Option.getD_some] at hj
        unfold maskOf at hj
        rcases mask_fold hj with hj | ⟨e, e1, e2, e3⟩
        · simp at hj
        · have hl := he e e1 e2
          rcases e3 with rfl | e3
          · exact hl
          · by_cases hon : e.on < t.length
            · cases hoo : ops[e.on]? with
              | none =>
                exfalso
                have h1 := Array.getElem?_eq_none_iff.1 hoo
                have h2 := (Array.getElem?_eq_some_iff.1 ho).1
                omega
              | some oe =>
                have hlt' : listed.getD e.on true = true := by
                  by_cases hs : e.on < listed.size
                  · simp only [Array.getD, hs, dite_true] at hl ⊢; exact hl
                  · simp [Array.getD, hs]
                exact ht e.on oe hon hoo (hc e.on oe hoo hlt') j e3
            · rw [List.getD_eq_getElem?_getD, List.getElem?_eq_none (by omega)] at e3
              simp at e3

theorem ordChk_first {md : Region.Mode} {ops : List Oper} {p : Nat → Bool} : ∀ {r pre : List Nat}, ordChk md ops pre r = true → (∀ j ∈ pre, p j = false) → (∃ i ∈ r, p i = true) →
    ∃ i o, i < ops.length ∧ p i = true ∧ ops[i]? = some o ∧ ∀ e ∈ o.after.toList, Region.binds md e = true → p e.on = false
  | [], pre, _, _, h => by obtain ⟨i, hi, _⟩ := h; simp at hi
  | i :: r, pre, hc, hp, h => by
    simp only [ordChk, Bool.and_eq_true, decide_eq_true_eq] at hc
    obtain ⟨⟨h1, h2⟩, h3⟩ := hc
    by_cases hi : p i = true
    · cases ho : ops[i]? with
      | none => rw [ho] at h2; simp at h2
      | some o =>
        rw [ho] at h2
        simp only [List.all_eq_true] at h2
        refine ⟨i, o, h1, hi, ho, fun e he hb => ?_⟩
        have := h2 e he
        simp only [hb, Bool.not_true, Bool.false_or, List.contains_iff_mem] at this
        exact hp _ this
    · refine ordChk_first h3 (fun j hj => ?_) ?_
      · rcases List.mem_append.1 hj with hj | hj
        · exact hp j hj
        · simp only [List.mem_singleton] at hj; subst hj; simpa using hi
      · obtain ⟨j, hj, hpj⟩ := h
        rcases List.mem_cons.1 hj with rfl | hj
        · exact absurd hpj hi
        · exact ⟨j, hj, hpj⟩
theorem ordChk_lt {md : Region.Mode} {ops : List Oper} : ∀ {r pre : List Nat}, ordChk md ops pre r = true → ∀ i ∈ r, i < ops.length
  | [], _, _, i, h => by simp at h
  | j :: r, pre, hc, i, h => by
    simp only [ordChk, Bool.and_eq_true, decide_eq_true_eq] at hc
    rcases List.mem_cons.1 h with rfl | h
    · exact hc.1.1
    · exact ordChk_lt hc.2 i h
/-- Of operations that wait one may go. -/
theorem orders_go {md : Region.Mode} {ops : List Oper} (h : orders ops = true) {p : Nat → Bool} (hp : ∃ i, i < ops.length ∧ p i = true) (hge : ∀ i, ops.length ≤ i → p i = false) :
    ∃ i o, i < ops.length ∧ p i = true ∧ ops[i]? = some o ∧ ∀ e ∈ o.after.toList, Region.binds md e = true → p e.on = false ∧ e.on < ops.length := by
  unfold orders at h
  rw [Bool.or_eq_true] at h
  rcases h with h | h
  · -- the least one
    obtain ⟨i, hi, hpi⟩ := hp
    have least : ∀ n, (∃ i, i ≤ n ∧ i < ops.length ∧ p i = true) → ∃ i, i < ops.length ∧ p i = true ∧ ∀ j, j < i → p j = false := by
      intro n
      induction n using Nat.strongRecOn with
      | _ n ih =>
        rintro ⟨i, h1, h2, h3⟩
        by_cases hj : ∃ j, j < i ∧ p j = true
        · obtain ⟨j, g1, g2⟩ := hj
          exact ih j (by omega) ⟨j, Nat.le_refl _, by omega, g2⟩
        · refine ⟨i, h2, h3, fun j hj' => ?_⟩
          cases hpj : p j with
          | false => rfl
          | true => exact absurd ⟨j, hj', hpj⟩ hj
    obtain ⟨i, h1, h2, h3⟩ := least i ⟨i, Nat.le_refl _, hi, hpi⟩
    unfold allBack at h
    rw [List.all_eq_true] at h
    have := h i (by simpa using h1)
    rw [List.getElem?_eq_getElem h1] at this
    simp only [List.all_eq_true, decide_eq_true_eq] at this
    exact ⟨i, _, h1, h2, List.getElem?_eq_getElem h1, fun e he _ => ⟨h3 _ (this e he), by have := this e he; omega⟩⟩
  · have hmd : ordOK md ops = true := by
      simp only [Bool.and_eq_true] at h
      cases md with
      | text => exact h.1.1
      | gc => exact h.1.2
      | any => exact h.2
    unfold ordOK at hmd
    simp only [Bool.and_eq_true, List.all_eq_true] at hmd
    obtain ⟨i, hi, hpi⟩ := hp
    have hm : i ∈ ordGo md ops ops.length [] := by simpa using hmd.1 i (by simpa using hi)
    obtain ⟨j, o, h1, h2, h3, h4⟩ := ordChk_first (p := p) hmd.2 (by simp) ⟨i, hm, hpi⟩
    refine ⟨j, o, h1, h2, h3, fun e he hb => ⟨h4 e he hb, ?_⟩⟩
    -- within
    have key : ∀ {r pre : List Nat}, ordChk md ops pre r = true → (∀ k ∈ pre, k < ops.length) → j ∈ r → e.on < ops.length := by
      intro r
      induction r with
      | nil => intro pre _ _ h; simp at h
      | cons k r ih =>
        intro pre hc hpre hj
        simp only [ordChk, Bool.and_eq_true, decide_eq_true_eq] at hc
        rcases List.mem_cons.1 hj with rfl | hj
        · have h5 := hc.1.2
          rw [h3] at h5
          simp only [List.all_eq_true] at h5
          have := h5 e he
          simp only [hb, Bool.not_true, Bool.false_or, List.contains_iff_mem] at this
          exact hpre _ this
        · refine ih hc.2 (fun q hq => ?_) hj
          rcases List.mem_append.1 hq with hq | hq
          · exact hpre q hq
          · simp only [List.mem_singleton] at hq; subst hq; exact hc.1.1
    exact key hmd.2 (by simp) (by simpa using hmd.1 j (by simpa using h1))

theorem any_sound {md : Region.Mode} {ops : Array Oper} {lq : List (AOper × Nat)} {df : List (Nat × Nat)} {Q : Exit → Act → World → Prop} (hE : EOK P E) (hlen : lq.length = ops.size) (hp : ∀ (i : Nat) (o : Oper) (x : AOper × Nat), ops[i]? = some o → lq[i]? = some x → pOperE P ops o = some x.1)
    (hok : drawOk ops.toList (maskTab ops.toList []) lq df = true) (hord : orders ops.toList = true) : ∀ (R : List Nat) (listed : Array Bool) {ι₀ : List Pl} {L₀ : HL} {w₀ : World} {ds : Nat} {τ τ' : List AV} {H H' : Hp} {a : Act} {w : World} (n : Nat), R.length = n →
    R.Pairwise (· < ·) → (∀ i, i ∈ R ↔ i < ops.size ∧ listed.getD i true = false) → listed.size = ops.size → Closed ops listed → difOK τ df = true → At P ι₀ L₀ w₀ ds τ H.l a w → execQ E (R.filterMap (lq[·]?)) τ H = some (τ', H') →
    (∀ a' w', At P ι₀ L₀ w₀ ds τ' H'.l a' w' → Q .normal a' w') → wpAnyIn (Fr ro) 0 P md ops Q n listed a w := by
  have hall : ∀ i o, ops[i]? = some o → (∀ e ∈ o.after.toList, Region.binds .any e = true → e.on < i) ∧ ∀ j, j < i → ∀ y x, lq[j]? = some y → lq[i]? = some x → ((maskTab ops.toList []).getD i 0).testBit j = true ∨ apartA df y x = true := by
    intro i o ho
    have hi := (Array.getElem?_eq_some_iff.1 ho).1
    unfold drawOk at hok
    rw [Bool.and_eq_true] at hok
    have hok := hok.2
    rw [List.all_eq_true] at hok
    have := hok i (by simp [hlen]; exact hi)
    rw [Bool.and_eq_true] at this
    obtain ⟨h1, h2⟩ := this
    refine ⟨fun e he hbe => ?_, fun j hj y x hy hx => ?_⟩
    · have e1 : ops.toList[i]? = some o := by simpa using ho
      rw [e1] at h1
      simp only [List.all_eq_true] at h1
      have := h1 e he
      simpa [hbe] using this
    · rw [List.all_eq_true] at h2
      have := h2 j (by simpa using hj)
      rw [hy, hx] at this
      simpa using this
  have hdst : ∀ x ∈ lq, ∀ d, x.1.dst = some d → ∀ p ∈ df, p.1 ≠ d ∧ p.2 ≠ d := by
    intro x hx d hd p hp
    unfold drawOk at hok
    rw [Bool.and_eq_true] at hok
    have := List.all_eq_true.1 hok.1 x hx
    rw [hd] at this
    have := List.all_eq_true.1 this p hp
    simpa using this
  have hbm : ∀ e, Region.binds .any e = true → Region.binds md e = true := by
    intro e he
    cases hg : e.ground <;> simp [Region.binds, hg] at he ⊢
  intro R listed ι₀ L₀ w₀ ds τ τ' H H' a w n
  induction n generalizing R listed τ H a w with
  | zero =>
    intro hn _ hR hs hc hdo hat h hQ
    have : R = [] := by cases R with | nil => rfl | cons => simp at hn
    subst this
    simp only [List.filterMap_nil, execQ, Option.some.injEq, Prod.mk.injEq] at h
    obtain ⟨rfl, rfl⟩ := h
    refine ⟨?_, hQ a w hat⟩
    unfold Region.ready
    rw [List.filter_eq_nil_iff]
    intro i hi hh
    simp only [List.mem_range] at hi
    simp only [Bool.and_eq_true, Bool.not_eq_true'] at hh
    exact absurd ((hR i).2 ⟨hi, hh.1⟩) (by simp)
  | succ n ih =>
    intro hn hs0 hR hs hc hdo hat h hQ
    have ready_spec : ∀ i, i ∈ Region.ready md ops listed ↔ i < ops.size ∧ listed.getD i true = false ∧ ∃ o, ops[i]? = some o ∧ ∀ e ∈ o.after.toList, Region.binds md e = true → listed.getD e.on false = true := by
      intro i
      unfold Region.ready
      rw [List.mem_filter]
      simp only [List.mem_range, Bool.and_eq_true, Bool.not_eq_true']
      constructor
      · rintro ⟨h1, h2, h3⟩
        refine ⟨h1, h2, ?_⟩
        rw [Array.getElem?_eq_getElem h1] at h3
        refine ⟨ops[i], Array.getElem?_eq_getElem h1, ?_⟩
        simp only [Option.map_some, Option.getD_some] at h3
        intro e he hb
        have := (Array.all_eq_true_iff_forall_mem.1 h3) e (by simpa using he)
        simpa [hb] using this
      · rintro ⟨h1, h2, o, ho, h3⟩
        refine ⟨h1, h2, ?_⟩
        rw [ho]
        simp only [Option.map_some, Option.getD_some]
        rw [Array.all_eq_true_iff_forall_mem]
        intro e he
        by_cases hb : Region.binds md e = true
        · simp [h3 e (by simpa using he) hb]
        · simp [hb]
    refine ⟨?_, ?_⟩
    · intro hnil
      exfalso
      cases R with
      | nil => simp at hn
      | cons i R =>
        have hi := (hR i).1 (by simp)
        obtain ⟨j, o, g1, g2, g3, g4⟩ := orders_go (md := md) hord (p := fun k => !listed.getD k true) ⟨i, by simpa using hi.1, by simp [hi.2]⟩ (fun k hk => by
          have : ¬ k < listed.size := by simp at hk; omega
          simp [Array.getD, this])
        have hmem : j ∈ Region.ready md ops listed := by
          rw [ready_spec]
          have g3' : ops[j]? = some o := by simpa using g3
          refine ⟨by simpa using g1, by simpa using g2, o, g3', fun e he hb => ?_⟩
          obtain ⟨k1, k2⟩ := g4 e he hb
          have hsz : e.on < listed.size := by simp at k2; omega
          simp only [Array.getD, hsz, dite_true, Bool.not_eq_false'] at k1 ⊢
          exact k1
        rw [hnil] at hmem
        simp at hmem
    · intro i hi
      obtain ⟨h1, h2, o, ho, h3m⟩ := (ready_spec i).1 hi
      have h3 : ∀ e ∈ o.after.toList, Region.binds .any e = true → listed.getD e.on false = true := fun e he hb => h3m e he (hbm e hb)
      obtain ⟨A, B, rfl⟩ := List.append_of_mem ((hR i).2 ⟨h1, h2⟩)
      have hx : i < lq.length := by omega
      have hxe : lq[i]? = some lq[i] := List.getElem?_eq_getElem hx
      rw [List.filterMap_append, List.filterMap_cons, hxe] at h
      have hpw := List.pairwise_append.1 hs0
      have hfr := front (E := E) hE.le (x := lq[i]) (B := B.filterMap (lq[·]?)) (A.filterMap (lq[·]?)) (τ := τ) (H := H) (r := (τ', H')) hdo (fun y hy => ⟨by
        obtain ⟨j, hj, hjy⟩ := List.mem_filterMap.1 hy
        exact hdst y (List.mem_of_getElem? hjy), by
        obtain ⟨j, hj, hjy⟩ := List.mem_filterMap.1 hy
        have hjlt : j < i := hpw.2.2 j hj i (by simp)
        rcases (hall i o ho).2 j hjlt y lq[i] hjy hxe with hb | hb
        · exfalso
          have := mask_ok hc ops.toList [] (fun k => by simp) (fun k o hk => by simp at hk) i o ho h3 j hb
          have hju := (hR j).1 (by simp [hj])
          have hjs : j < listed.size := by omega
          have h5 := hju.2
          simp only [Array.getD, hjs, dite_true] at this h5
          rw [this] at h5; cases h5
        · exact hb⟩) h
      obtain ⟨u, g, hact, hrest⟩ := hfr
      obtain ⟨dd, gg, hact1, hact2, _⟩ := actQ_inv hact
      rw [← List.filterMap_append] at hrest
      obtain ⟨ι, q1, q2, q3, q4⟩ := hat.ex
      have hset : ∀ j, (listed.setIfInBounds i true).getD j true = (if i = j then true else listed.getD j true) := by
        intro j
        simp only [Array.getD_eq_getD_getElem?, Array.getElem?_setIfInBounds]
        by_cases e : i = j
        · subst e; simp [hs, h1]
        · simp [e]
      have hset' : ∀ j, j < listed.size → (listed.setIfInBounds i true).getD j false = (if i = j then true else listed.getD j false) := by
        intro j hj
        simp only [Array.getD_eq_getD_getElem?, Array.getElem?_setIfInBounds]
        by_cases e : i = j
        · subst e; simp [hj]
        · simp [e]
      refine actO_sound (H := { l := H.l, d := dd }) hE ho (hp i o lq[i] ho hxe) q2 q3 hact1 fun ι' a' w' r1 r2 r3 r4 => ?_
      rw [← hact2] at r1 r2 r3
      refine ih (A ++ B) (listed.setIfInBounds i true) (by simp at hn ⊢; omega) ?_ ?_ (by simpa using hs) ?_ ((difOK_put (hdst lq[i] (List.mem_of_getElem? hxe))).trans hdo) ⟨⟨ι', q1.trans r1, r2, r3, by rw [r4]; exact q4.step r1⟩⟩ hrest hQ
      · rw [List.pairwise_append]
        exact ⟨hpw.1, (List.pairwise_cons.1 hpw.2.1).2, fun x hx y hy => hpw.2.2 x hx y (by simp [hy])⟩
      · intro j
        rw [hset]
        have hj := hR j
        simp only [List.mem_append, List.mem_cons] at hj ⊢
        by_cases e : i = j
        · subst e
          simp only [if_true, Bool.true_eq_false, and_false, iff_false]
          rintro (hm | hm)
          · have := hpw.2.2 i hm i (by simp); omega
          · have := (List.pairwise_cons.1 hpw.2.1).1 i hm; omega
        · simp only [e, if_false]
          rw [← hj]
          constructor
          · rintro (hm | hm)
            · exact .inl hm
            · exact .inr (.inr hm)
          · rintro (hm | hm | hm)
            · exact .inl hm
            · exact absurd hm.symm e
            · exact .inr hm
      · intro k ok hok' hk e he hb
        by_cases hb2 : e.on < listed.size
        · rw [hset' _ hb2]
          rw [hset] at hk
          by_cases e1 : i = k
          · subst e1
            rw [ho] at hok'; cases hok'
            rw [h3 e he hb]; simp
          · simp only [e1, if_false] at hk
            rw [hc k ok hok' hk e he hb]; simp
        · exfalso
          have := (hall k ok hok').1 e he hb
          have := (Array.getElem?_eq_some_iff.1 hok').1
          omega

theorem region_sound {id : Nat} {ops : Array Oper} {draw : Bool} {ac : AC} {Q : Exit → Act → World → Prop} {ι₀ : List Pl} {L₀ : HL} {w₀ : World} {ds : Nat} {τ τ' : List AV} {H H' : Hp} {a : Act} {w : World} (hE : EOK P E) (hp : pRegion P id ops draw = some ac)
    (hat : At P ι₀ L₀ w₀ ds τ H.l a w) (h : (∃ l, ac = .ops l ∧ execOps E l τ H = some (τ', H')) ∨ (∃ id l q df, ac = .dops id l q df ∧ difOK τ df = true ∧ execQ E (l.zip q) τ H = some (τ', H')))
    (hQ : ∀ a' w', At P ι₀ L₀ w₀ ds τ' H'.l a' w' → Q .normal a' w') : (Code.region id ops draw).wpIn (Fr ro) 0 P Q a w := by
  simp only [pRegion, Option.bind_eq_bind, Option.pure_def] at hp
  obtain ⟨l, hl, hp⟩ := Option.bind_eq_some_iff.1 hp
  have hlen : l.length = ops.size := by rw [mapM_length hl]; simp
  cases draw with
  | false =>
    simp only [Bool.false_eq_true, if_false, Option.some.injEq] at hp
    subst hp
    rcases h with ⟨l', e, h⟩ | ⟨_, _, _, _, e, _⟩
    · cases e
      refine wpIn_region (ops_sound hE _ l (fun k => ?_) (by simp [hlen]) hat h hQ)
      have := mapM_get hl k
      by_cases hk : k < ops.size
      · rw [List.getElem?_range hk]
        simpa using this
      · rw [List.getElem?_eq_none (by simp; omega), List.getElem?_eq_none (by omega)]; rfl
    · cases e
  | true =>
    simp only [if_true] at hp
    split at hp
    · rename_i hc
      simp only [Bool.and_eq_true] at hc
      obtain ⟨⟨c1, c2⟩, c3⟩ := hc
      simp only [Option.some.injEq] at hp
      subst hp
      rcases h with ⟨l', e, h⟩ | ⟨id', l', q, df, e, hdo, h⟩
      · cases e
      · cases e
        have hq : (quietOf (maskTab ops.toList []) l (difOf (maskTab ops.toList []) l)).length = l.length := by simpa using c2
        have hlq : (l.zip (quietOf (maskTab ops.toList []) l (difOf (maskTab ops.toList []) l))).length = ops.size := by simp [hq, hlen]
        have hgo : ∀ md : Region.Mode, wpAnyIn (Fr ro) 0 P md ops Q ops.size (Array.replicate ops.size false) a { w with drawn := w.drawn + 1 } := by
          intro md
          obtain ⟨ι, q1, q2, q3, q4⟩ := hat.ex
          obtain ⟨d1, d2⟩ := q2.draw (w' := { w with drawn := w.drawn + 1 }) rfl rfl rfl rfl
          refine any_sound (md := md) hE hlq ?_ c1 c3 (List.range ops.size) _ ops.size (by simp) List.pairwise_lt_range ?_ (by simp) ?_ hdo ⟨⟨ι, q1.trans d2, d1, d2.vs q3, q4.step d2⟩⟩ ?_ hQ
          · intro i o x ho hx
            have := mapM_get hl i
            rw [show ops.toList[i]? = some o by simpa using ho, Option.bind_some] at this
            rw [this]
            rw [List.getElem?_zip_eq_some] at hx
            exact hx.1
          · intro i
            simp only [List.mem_range, Array.getD_eq_getD_getElem?]
            constructor
            · intro hi; exact ⟨hi, by simp [hi]⟩
            · exact fun hi => hi.1
          · intro i o ho hi e he hb
            have hi' := (Array.getElem?_eq_some_iff.1 ho).1
            simp [Array.getD_eq_getD_getElem?, hi'] at hi
          · have : (List.range ops.size).filterMap ((l.zip (quietOf (maskTab ops.toList []) l (difOf (maskTab ops.toList []) l)))[·]?) = l.zip (quietOf (maskTab ops.toList []) l (difOf (maskTab ops.toList []) l)) := by
              rw [← hlq]
              apply List.ext_getElem?
              intro k
              generalize l.zip (quietOf (maskTab ops.toList []) l (difOf (maskTab ops.toList []) l)) = z
              have : ∀ (z : List (AOper × Nat)), (List.range z.length).filterMap (z[·]?) = z := by
                intro z
                induction z with
                | nil => rfl
                | cons x z ih =>
                  rw [List.length_cons, List.range_succ_eq_map, List.filterMap_cons, List.getElem?_cons_zero, List.filterMap_map]
                  show x :: _ = x :: z
                  congr 1
              rw [this]
            rw [this]
            exact h
        refine wpIn_region_draw fun t => ?_
        have hany : ∀ (md : Region.Mode) (t : Nat), wpOpsIn (Fr ro) 0 P ops Q (Region.linearise md ops t) a { w with drawn := w.drawn + 1 } := by
          intro md t
          refine wpAnyIn_sound ops.size t _ a _ ?_
          exact hgo md
        unfold Region.schedule
        split
        · exact hany _ _
        · exact hany _ _
    · simp only [Option.some.injEq] at hp
      subst hp
      rcases h with ⟨l', e, h⟩ | ⟨_, _, _, _, e, _⟩
      · cases e
        simp only [execOps, bad_none] at h
        simp at h
      · cases e
end
end Go.Proofs.Eng
