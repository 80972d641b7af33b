/- The engine, part S: regions. -/
import Derived.Test.YtkofnmiopjnhiaaEngR
set_option linter.unusedVariables false
set_option linter.unusedSimpArgs false
namespace Go.Proofs.Eng
open Go Go.RowKit

/-! ### Values that name old objects alone -/
mutual
def AV.under (n : Nat) : AV → Bool
  | .lit _ => true
  | .agg xs => AV.unders n xs
  | .tup xs => AV.unders n xs
  | .sl _ xs => AV.unders n xs
  | .ra _ id _ _ => decide (id < n)
  | .ptr id _ => decide (id < n)
  | .ep id _ _ => decide (id < n)
  | .vp xs => AV.unders n xs
  | .map id => decide (id < n)
  | .fn _ fs cs => AV.unders n fs && AV.unders n cs
  | .yld l => decide (l < n)
  | .ifc _ x => AV.under n x
  | .any => true
def AV.unders (n : Nat) : List AV → Bool
  | [] => true
  | x :: xs => AV.under n x && AV.unders n xs
end

mutual
theorem under_of {ι : Io} {fz : Fz} : ∀ (x : AV) (v : Value), VRel ι fz x v → x.under ι.l.length = true
  | .lit x, v => fun h => rfl
  | .agg xs, v => fun h => by simp only [VRel] at h; obtain ⟨cs, _, h⟩ := h; exact unders_of xs _ h
  | .tup xs, v => fun h => by simp only [VRel] at h; obtain ⟨cs, _, h⟩ := h; exact unders_of xs _ h
  | .sl sz xs, v => fun h => by simp only [VRel] at h; obtain ⟨a, cap, vs, _, _, h, _⟩ := h; exact unders_of xs _ h
  | .ra sz id off n, v => fun h => by simp only [VRel] at h; obtain ⟨p, a, cap, h, _⟩ := h; simp only [AV.under, decide_eq_true_eq]; exact (List.getElem?_eq_some_iff.1 h).1
  | .ptr id off, v => fun h => by simp only [VRel] at h; obtain ⟨p, h, _⟩ := h; simp only [AV.under, decide_eq_true_eq]; exact (List.getElem?_eq_some_iff.1 h).1
  | .ep id i o, v => fun h => by simp only [VRel] at h; obtain ⟨p, h, _⟩ := h; simp only [AV.under, decide_eq_true_eq]; exact (List.getElem?_eq_some_iff.1 h).1
  | .vp xs, v => fun h => by simp only [VRel] at h; obtain ⟨a, vs, _, h, _⟩ := h; exact unders_of xs _ h
  | .map id, v => fun h => by simp only [VRel] at h; obtain ⟨p, h, _⟩ := h; simp only [AV.under, decide_eq_true_eq]; exact (List.getElem?_eq_some_iff.1 h).1
  | .fn f fs cs, v => fun h => by simp only [VRel] at h; obtain ⟨as, bs, _, h1, h2⟩ := h; simp only [AV.under, Bool.and_eq_true]; exact ⟨unders_of fs _ h1, unders_of cs _ h2⟩
  | .yld l, v => fun h => by simp only [VRel] at h; obtain ⟨p, h, _⟩ := h; simp only [AV.under, decide_eq_true_eq]; exact (List.getElem?_eq_some_iff.1 h).1
  | .ifc t x, v => fun h => by simp only [VRel] at h; obtain ⟨u, _, h⟩ := h; exact under_of x _ h
  | .any, v => fun h => rfl
theorem unders_of {ι : Io} {fz : Fz} : ∀ (xs : List AV) (vs : List Value), VRels ι fz xs vs → AV.unders ι.l.length xs = true
  | [], vs => fun h => rfl
  | x :: xs, vs => fun h => by
    simp only [VRels] at h
    obtain ⟨u, us, _, h1, h2⟩ := h
    simp only [AV.unders, Bool.and_eq_true]
    exact ⟨under_of x u h1, unders_of xs us h2⟩
end

theorem prefix_back {ι ι' : Io} (h : ι.Le ι') {i : Nat} (hi : i < ι.l.length) {p : Pl} (e : ι'.l[i]? = some p) : ι.l[i]? = some p := by
  obtain ⟨t, ht⟩ := h
  rw [← ht, List.getElem?_append_left hi] at e; exact e

mutual
theorem VRel.shrink {ι ι' : Io} {fz fz' : Fz} (hι : ι.Le ι') (hf : FzLe fz' fz) : ∀ (x : AV) (v : Value), x.under ι.l.length = true → VRel ι' fz' x v → VRel ι fz x v
  | .lit x, v => fun _ h => by simpa only [VRel] using h
  | .agg xs, v => fun hu h => by
    simp only [VRel] at h ⊢
    obtain ⟨cs, e, h⟩ := h
    exact ⟨cs, e, VRels.shrink hι hf xs _ hu h⟩
  | .tup xs, v => fun hu h => by
    simp only [VRel] at h ⊢
    obtain ⟨cs, e, h⟩ := h
    exact ⟨cs, e, VRels.shrink hι hf xs _ hu h⟩
  | .sl sz xs, v => fun hu h => by
    simp only [VRel] at h ⊢
    obtain ⟨a, cap, vs, e, hc, h, hs, hl⟩ := h
    exact ⟨a, cap, vs, e, hc, VRels.shrink hι hf xs _ hu h, hs, hl.mono hf⟩
  | .ra sz id off len, v => fun hu h => by
    simp only [VRel] at h ⊢
    simp only [AV.under, decide_eq_true_eq] at hu
    obtain ⟨p, a, cap, e, h⟩ := h
    exact ⟨p, a, cap, prefix_back hι hu e, h⟩
  | .ptr id off, v => fun hu h => by
    simp only [VRel] at h ⊢
    simp only [AV.under, decide_eq_true_eq] at hu
    obtain ⟨p, e, h⟩ := h
    exact ⟨p, prefix_back hι hu e, h⟩
  | .ep id idx inner, v => fun hu h => by
    simp only [VRel] at h ⊢
    simp only [AV.under, decide_eq_true_eq] at hu
    obtain ⟨p, e, h⟩ := h
    exact ⟨p, prefix_back hι hu e, h⟩
  | .vp xs, v => fun hu h => by
    simp only [VRel] at h ⊢
    obtain ⟨a, vs, e, h, hl⟩ := h
    exact ⟨a, vs, e, VRels.shrink hι hf xs _ hu h, hl.mono hf⟩
  | .map id, v => fun hu h => by
    simp only [VRel] at h ⊢
    simp only [AV.under, decide_eq_true_eq] at hu
    obtain ⟨p, e, h⟩ := h
    exact ⟨p, prefix_back hι hu e, h⟩
  | .fn f fs cs, v => fun hu h => by
    simp only [VRel] at h ⊢
    simp only [AV.under, Bool.and_eq_true] at hu
    obtain ⟨as, bs, e, h1, h2⟩ := h
    exact ⟨as, bs, e, VRels.shrink hι hf fs _ hu.1 h1, VRels.shrink hι hf cs _ hu.2 h2⟩
  | .yld l, v => fun hu h => by
    simp only [VRel] at h ⊢
    simp only [AV.under, decide_eq_true_eq] at hu
    obtain ⟨p, e, h⟩ := h
    exact ⟨p, prefix_back hι hu e, h⟩
  | .ifc t x, v => fun hu h => by
    simp only [VRel] at h ⊢
    obtain ⟨u, e, h⟩ := h
    exact ⟨u, e, VRel.shrink hι hf x _ hu h⟩
  | .any, v => fun _ h => by simp only [VRel]
theorem VRels.shrink {ι ι' : Io} {fz fz' : Fz} (hι : ι.Le ι') (hf : FzLe fz' fz) : ∀ (xs : List AV) (vs : List Value), AV.unders ι.l.length xs = true → VRels ι' fz' xs vs → VRels ι fz xs vs
  | [], vs => fun _ h => by simpa only [VRels] using h
  | x :: xs, vs => fun hu h => by
    simp only [VRels] at h ⊢
    simp only [AV.unders, Bool.and_eq_true] at hu
    obtain ⟨u, us, e, h1, h2⟩ := h
    exact ⟨u, us, e, VRel.shrink hι hf x u hu.1 h1, VRels.shrink hι hf xs us hu.2 h2⟩
end

theorem MRel.shrink {ι ι' : Io} {fz fz' fo : Fz} (hι : ι.Le ι') (hf : FzLe fz' fz) : ∀ {es : List (Value × AV × Nat)} {co ces : List MapEntry}, MRel ι fo es co → MRel ι' fz' es ces → MRel ι fz es ces
  | [], co, ces, _, h => h
  | x :: xs, co, ces, ho, h => by
    obtain ⟨e, r, e1, e2, e3, e4, e5⟩ := h
    obtain ⟨e', r', _, _, _, f4, f5⟩ := ho
    exact ⟨e, r, e1, e2, e3, VRel.shrink hι hf _ _ (under_of _ _ f4) e4, f5.shrink hι hf e5⟩

theorem ORel.shrink {PC : Code → AC → Prop} {ι ι' : Io} {fz fz' fo : Fz} {p q : Pl} {w w' : World} {o : AObj} (hι : ι.Le ι') (hf : FzLe fz' fz) (ho : ORel PC ι fo q w o) (h : ORel PC ι' fz' p w' o) : ORel PC ι fz p w' o := by
  cases o with
  | cells cs t =>
    obtain ⟨c, fr, h1, h2, h3, h4, h5⟩ := h
    obtain ⟨_, _, _, _, _, _, g5⟩ := ho
    exact ⟨c, fr, h1, h2, h3, h4, VRels.shrink hι hf _ _ (unders_of _ _ g5) h5⟩
  | arr sz es t =>
    obtain ⟨c, fr, vs, h1, h2, h3, h4, h5, h6⟩ := h
    obtain ⟨_, _, _, _, _, _, _, g5, _⟩ := ho
    exact ⟨c, fr, vs, h1, h2, h3, h4, VRels.shrink hι hf _ _ (unders_of _ _ g5) h5, h6⟩
  | map es clk =>
    obtain ⟨ces, h1, h2, h3⟩ := h
    obtain ⟨_, _, g2, _⟩ := ho
    exact ⟨ces, h1, g2.shrink hι hf h2, h3⟩
  | loop st pend τ ps asg body =>
    obtain ⟨l, h1, h2, h3, h4, h5⟩ := h
    obtain ⟨_, _, _, _, g4, _⟩ := ho
    exact ⟨l, h1, h2, h3, VRels.shrink hι hf _ _ (unders_of _ _ g4) h4, h5⟩


section
variable {P : Program} {E : Env} {ro : Option Nat}

theorem mapM_get {α β : Type} {f : α → Option β} : ∀ {xs : List α} {ys : List β}, xs.mapM f = some ys → ∀ i : Nat, (xs[i]?).bind f = ys[i]?
  | [], ys, h, i => by simp at h; subst h; simp
  | x :: xs, ys, h, i => by
    obtain ⟨y, r, h1, h2, rfl⟩ := mapM_cons_some h
    cases i with
    | zero => simpa using h1
    | succ i => simpa using mapM_get h2 i

theorem mapM_length {α β : Type} {f : α → Option β} : ∀ {xs : List α} {ys : List β}, xs.mapM f = some ys → ys.length = xs.length
  | [], ys, h => by simp at h; subst h; simp
  | x :: xs, ys, h => by
    obtain ⟨y, r, h1, h2, rfl⟩ := mapM_cons_some h
    simp [mapM_length h2]

/-- The deferred calls of an activation: marks of loops over functions, nothing else. -/
def DfOK (base : Nat) (ι : Io) (L : HL) (w : World) (ds : List Deferred) : Prop :=
  ∃ Ds : List Nat, ds = Ds.map (fun D => { target := .collected D, args := #[] }) ∧ Ds.Nodup ∧ ∀ D ∈ Ds, base ≤ D ∧ w.heap[D]? = some (.deferred (some [])) ∧ ¬ Owned ι L D

theorem DfOK.step {base : Nat} {ι ι' : Io} {L L' : HL} {w w' : World} {ds : List Deferred} (h : DfOK base ι L w ds) (s : Stp ι L w ι' L' w') : DfOK base ι' L' w' ds := by
  obtain ⟨Ds, e, hn, h⟩ := h
  refine ⟨Ds, e, hn, fun D hD => ?_⟩
  obtain ⟨h1, h2, h3⟩ := h D hD
  have := s.frame D (Array.getElem?_eq_some_iff.1 h2).1 h3
  exact ⟨h1, this.2.trans h2, this.1⟩

/-- The state of an activation beside the abstract one, and how it came there. -/
theorem aput_len' (d : Option Nat) (v : AV) (τ : List AV) : (aput d v τ).length = τ.length := by cases d <;> simp [aput]

structure At (P : Program) (ι₀ : Io) (L₀ : HL) (w₀ : World) (ds : Nat) (τ : List AV) (L : HL) (a : Act) (w : World) : Prop where
  ex : ∃ ι, Stp ι₀ L₀ w₀ ι L w ∧ RelH (PCof P) ι L w ∧ VRels ι (fzOf ι L w) τ a.tmps.toList ∧ DfOK ds ι L w a.defers

theorem ops_sound {ops : Array Oper} {Q : Exit → Act → World → Prop} (hE : EOK P E) : ∀ (is : List Nat) (ls : List AOper) {ι₀ : Io} {L₀ : HL} {w₀ : World} {ds : Nat} {τ τ' : List AV} {H H' : Hp} {a : Act} {w : World},
    (∀ k : Nat, ((is[k]?).bind fun i => (ops[i]?).bind (pOperE P ops)) = ls[k]?) → is.length = ls.length → At P ι₀ L₀ w₀ ds τ H.l a w → execOps E ls τ H = some (τ', H') →
    (∀ a' w', At P ι₀ L₀ w₀ ds τ' H'.l a' w' → Q .normal a' w') → wpOpsIn (Fr ro) 0 P ops Q is a w
  | [], ls, ι₀, L₀, w₀, ds, τ, τ', H, H', a, w, hm, hl, hat, h, hQ => by
    have : ls = [] := by cases ls with | nil => rfl | cons => simp at hl
    subst this
    simp only [execOps, Option.some.injEq, Prod.mk.injEq] at h
    obtain ⟨rfl, rfl⟩ := h
    simpa [wpOpsIn] using hQ a w hat
  | i :: is, ls, ι₀, L₀, w₀, ds, τ, τ', H, H', a, w, hm, hl, hat, h, hQ => by
    cases ls with
    | nil => simp at hl
    | cons ao ls =>
      have h0 := hm 0
      simp only [List.getElem?_cons_zero, Option.bind_some] at h0
      obtain ⟨o, ho, hp⟩ := Option.bind_eq_some_iff.1 h0
      simp only [execOps] at h
      split at h
      · rename_i v g hact
        rw [wpOpsIn_cons]
        obtain ⟨ι, q1, q2, q3, q4⟩ := hat.ex
        refine actO_sound hE ho hp q2 q3 hact fun ι' a' w' r1 r2 r3 r4 => ?_
        exact ops_sound hE is ls (fun k => by simpa using hm (k + 1)) (by simpa using hl) ⟨⟨ι', q1.trans r1, r2, r3, by rw [r4]; exact q4.step r1⟩⟩ h hQ
      · simp at h

/-! ### In any order -/
def Closed (ops : Array Oper) (listed : Array Bool) : Prop := ∀ i o, ops[i]? = some o → listed.getD i true = true → ∀ e ∈ o.after.toList, Region.binds .any e = true → listed.getD e.on false = true

theorem mask_fold {tab : List Nat} {j : Nat} : ∀ {es : List Edge} {s : Nat}, (es.foldl (fun s e => if Region.binds .any e then s ||| 2 ^ e.on ||| tab.getD e.on 0 else s) s).testBit j = true →
    s.testBit j = true ∨ ∃ e ∈ es, Region.binds .any e = true ∧ (e.on = j ∨ (tab.getD e.on 0).testBit j = true)
  | [], s, h => .inl h
  | e :: es, s, h => by
    simp only [List.foldl_cons] at h
    rcases mask_fold h with h | ⟨e', h1, h2⟩
    · split at h
      · rename_i hb
        rw [Nat.testBit_or, Nat.testBit_or] at h
        simp only [Bool.or_eq_true] at h
        rcases h with (h | h) | h
        · exact .inl h
        · rw [Nat.testBit_two_pow] at h
          exact .inr ⟨e, by simp, hb, .inl (by simpa using h)⟩
        · exact .inr ⟨e, by simp, hb, .inr h⟩
      · exact .inl h
    · exact .inr ⟨e', by simp [h1], h2⟩

theorem mask_ok {ops : Array Oper} {listed : Array Bool} (hc : Closed ops listed) : ∀ (r : List Oper) (t : List Nat), (∀ k, r[k]? = ops[t.length + k]?) →
    (∀ k o, k < t.length → ops[k]? = some o → (∀ e ∈ o.after.toList, Region.binds .any e = true → listed.getD e.on false = true) → ∀ j, (t.getD k 0).testBit j = true → listed.getD j false = true) →
    ∀ k o, ops[k]? = some o → (∀ e ∈ o.after.toList, Region.binds .any e = true → listed.getD e.on false = true) → ∀ j, ((maskTab r t).getD k 0).testBit j = true → listed.getD j false = true
  | [], t, hr, ht, k, o, ho, he, j, hj => by
    by_cases hk : k < t.length
    · exact ht k o hk ho he j hj
    · simp only [maskTab] at hj
      rw [List.getD_eq_getElem?_getD, List.getElem?_eq_none (by omega)] at hj
      simp at hj
  | x :: r, t, hr, ht, k, o, ho, he, j, hj => by
    simp only [maskTab] at hj
    refine mask_ok hc r (t ++ [maskOf t x]) (fun k => ?_) ?_ k o ho he j hj
    · have := hr (k + 1)
      simp only [List.getElem?_cons_succ] at this
      rw [this, List.length_append]
      simp only [List.length_cons, List.length_nil]
      congr 1
      omega
    · intro k o hk ho he j hj
      by_cases hlt : k < t.length
      · rw [List.getD_eq_getElem?_getD, List.getElem?_append_left hlt, ← List.getD_eq_getElem?_getD] at hj
        exact ht k o hlt ho he j hj
      · have hk' : k = t.length := by simp at hk; omega
        subst hk'
        have hx := hr 0
        simp only [List.getElem?_cons_zero, Nat.add_zero] at hx
        rw [ho] at hx
        cases hx
        rw [List.getD_eq_getElem?_getD] at hj
        simp only [List.getElem?_append_right (Nat.le_refl _), Nat.sub_self, List.getElem?_cons_zero, Option.getD_some] at hj
        unfold maskOf at hj
        rcases mask_fold hj with hj | ⟨e, e1, e2, e3⟩
        · simp at hj
        · have hl := he e e1 e2
          rcases e3 with rfl | e3
          · exact hl
          · by_cases hon : e.on < t.length
            · cases hoo : ops[e.on]? with
              | none =>
                exfalso
                have h1 := Array.getElem?_eq_none_iff.1 hoo
                have h2 := (Array.getElem?_eq_some_iff.1 ho).1
                omega
              | some oe =>
                have hlt' : listed.getD e.on true = true := by
                  by_cases hs : e.on < listed.size
                  · simp only [Array.getD, hs, dite_true] at hl ⊢; exact hl
                  · simp [Array.getD, hs]
                exact ht e.on oe hon hoo (hc e.on oe hoo hlt') j e3
            · rw [List.getD_eq_getElem?_getD, List.getElem?_eq_none (by omega)] at e3
              simp at e3

theorem ordChk_first {md : Region.Mode} {ops : List Oper} {p : Nat → Bool} : ∀ {r pre : List Nat}, ordChk md ops pre r = true → (∀ j ∈ pre, p j = false) → (∃ i ∈ r, p i = true) →
    ∃ i o, i < ops.length ∧ p i = true ∧ ops[i]? = some o ∧ ∀ e ∈ o.after.toList, Region.binds md e = true → p e.on = false
  | [], pre, _, _, h => by obtain ⟨i, hi, _⟩ := h; simp at hi
  | i :: r, pre, hc, hp, h => by
    simp only [ordChk, Bool.and_eq_true, decide_eq_true_eq] at hc
    obtain ⟨⟨h1, h2⟩, h3⟩ := hc
    by_cases hi : p i = true
    · cases ho : ops[i]? with
      | none => rw [ho] at h2; simp at h2
      | some o =>
        rw [ho] at h2
        simp only [List.all_eq_true] at h2
        refine ⟨i, o, h1, hi, ho, fun e he hb => ?_⟩
        have := h2 e he
        simp only [hb, Bool.not_true, Bool.false_or, List.contains_iff_mem] at this
        exact hp _ this
    · refine ordChk_first h3 (fun j hj => ?_) ?_
      · rcases List.mem_append.1 hj with hj | hj
        · exact hp j hj
        · simp only [List.mem_singleton] at hj; subst hj; simpa using hi
      · obtain ⟨j, hj, hpj⟩ := h
        rcases List.mem_cons.1 hj with rfl | hj
        · exact absurd hpj hi
        · exact ⟨j, hj, hpj⟩
/-- Of operations that wait one may go. -/
theorem orders_go {md : Region.Mode} {ops : List Oper} (h : orders ops = true) {p : Nat → Bool} (hp : ∃ i, i < ops.length ∧ p i = true) (hge : ∀ i, ops.length ≤ i → p i = false) :
    ∃ i o, i < ops.length ∧ p i = true ∧ ops[i]? = some o ∧ ∀ e ∈ o.after.toList, Region.binds md e = true → p e.on = false ∧ e.on < ops.length := by
  unfold orders at h
  rw [Bool.or_eq_true] at h
  rcases h with h | h
  · -- the least one
    obtain ⟨i, hi, hpi⟩ := hp
    have least : ∀ n, (∃ i, i ≤ n ∧ i < ops.length ∧ p i = true) → ∃ i, i < ops.length ∧ p i = true ∧ ∀ j, j < i → p j = false := by
      intro n
      induction n using Nat.strongRecOn with
      | _ n ih =>
        rintro ⟨i, h1, h2, h3⟩
        by_cases hj : ∃ j, j < i ∧ p j = true
        · obtain ⟨j, g1, g2⟩ := hj
          exact ih j (by omega) ⟨j, Nat.le_refl _, by omega, g2⟩
        · refine ⟨i, h2, h3, fun j hj' => ?_⟩
          cases hpj : p j with
          | false => rfl
          | true => exact absurd ⟨j, hj', hpj⟩ hj
    obtain ⟨i, h1, h2, h3⟩ := least i ⟨i, Nat.le_refl _, hi, hpi⟩
    unfold allBack at h
    rw [List.all_eq_true] at h
    have := h i (by simpa using h1)
    rw [List.getElem?_eq_getElem h1] at this
    simp only [List.all_eq_true, decide_eq_true_eq] at this
    exact ⟨i, _, h1, h2, List.getElem?_eq_getElem h1, fun e he _ => ⟨h3 _ (this e he), by have := this e he; omega⟩⟩
  · have hmd : ordOK md ops = true := by
      simp only [Bool.and_eq_true] at h
      cases md with
      | text => exact h.1.1
      | gc => exact h.1.2
      | any => exact h.2
    unfold ordOK at hmd
    simp only [Bool.and_eq_true, List.all_eq_true] at hmd
    obtain ⟨i, hi, hpi⟩ := hp
    have hm : i ∈ ordGo md ops ops.length [] := by simpa using hmd.1 i (by simpa using hi)
    obtain ⟨j, o, h1, h2, h3, h4⟩ := ordChk_first (p := p) hmd.2 (by simp) ⟨i, hm, hpi⟩
    refine ⟨j, o, h1, h2, h3, fun e he hb => ⟨h4 e he hb, ?_⟩⟩
    -- within
    have key : ∀ {r pre : List Nat}, ordChk md ops pre r = true → (∀ k ∈ pre, k < ops.length) → j ∈ r → e.on < ops.length := by
      intro r
      induction r with
      | nil => intro pre _ _ h; simp at h
      | cons k r ih =>
        intro pre hc hpre hj
        simp only [ordChk, Bool.and_eq_true, decide_eq_true_eq] at hc
        rcases List.mem_cons.1 hj with rfl | hj
        · have h5 := hc.1.2
          rw [h3] at h5
          simp only [List.all_eq_true] at h5
          have := h5 e he
          simp only [hb, Bool.not_true, Bool.false_or, List.contains_iff_mem] at this
          exact hpre _ this
        · refine ih hc.2 (fun q hq => ?_) hj
          rcases List.mem_append.1 hq with hq | hq
          · exact hpre q hq
          · simp only [List.mem_singleton] at hq; subst hq; exact hc.1.1
    exact key hmd.2 (by simp) (by simpa using hmd.1 j (by simpa using h1))

theorem chkP_spec {p : List Nat → Nat → Bool} : ∀ {π pre : List Nat}, chkP p pre π = true → ∀ l1 b l2, π = l1 ++ b :: l2 → p (pre ++ l1) b = true
  | [], pre, _, l1, b, l2, e => by simp at e
  | c :: r, pre, h, l1, b, l2, e => by
    simp only [chkP, Bool.and_eq_true] at h
    cases l1 with
    | nil => simp only [List.nil_append, List.cons.injEq] at e; rw [← e.1, List.append_nil]; exact h.1
    | cons d l1 =>
      simp only [List.cons_append, List.cons.injEq] at e
      have := chkP_spec h.2 l1 b l2 e.2
      rw [e.1, List.append_assoc] at this
      exact this

def MaskB (ops : Array Oper) (i j : Nat) : Prop := ((maskTab ops.toList []).getD i 0).testBit j = true
def ApB (lq : List (AOper × Nat)) (df : List (Nat × Nat)) (y i : Nat) : Prop := ∃ yy xx, lq[y]? = some yy ∧ lq[i]? = some xx ∧ apartA df yy xx = true

/-- What a plan promises. -/
structure Plan (ops : Array Oper) (lq : List (AOper × Nat)) (df : List (Nat × Nat)) (π als : List Nat) : Prop where
  hlen : lq.length = ops.size
  dstdf : ∀ x ∈ lq, ∀ d, x.1.dst = some d → ∀ p ∈ df, p.1 ≠ d ∧ p.2 ≠ d
  back : ∀ i o, ops[i]? = some o → ∀ e ∈ o.after.toList, Region.binds .any e = true → e.on < i
  nod : π.Nodup
  cov : ∀ i, i ∈ π ↔ i < ops.size
  pair : ∀ l1 i l2, π = l1 ++ i :: l2 → i ∉ als → ∀ y ∈ l1, MaskB ops i y ∨ ApB lq df y i
  c1 : ∀ l1 y l2, π = l1 ++ y :: l2 → y ∈ als → ∀ i, i < ops.size → i ∉ als → MaskB ops i y → ∀ z ∈ l1, MaskB ops i z ∨ (z ∉ als ∧ ApB lq df z y)
  al : ∀ y ∈ als, ∃ o d, lq[y]? = some (o, 1) ∧ isAl o = true ∧ o.dst = some d ∧ ∀ i x, i ≠ y → lq[i]? = some x → x.1.dst ≠ some d ∧ (d ∈ x.1.reads → i ∉ als ∧ MaskB ops i y) ∧ (∀ c, x.1.dst = some c → c ∈ o.reads → i ∉ als ∧ MaskB ops y i)

theorem nodup_chk : ∀ {π pre : List Nat}, chkP (fun pre i => !pre.contains i) pre π = true → pre.Nodup → (pre ++ π).Nodup
  | [], pre, _, h => by simpa using h
  | c :: r, pre, h, hn => by
    simp only [chkP, Bool.and_eq_true] at h
    have hc : c ∉ pre := by simpa using h.1
    have := nodup_chk h.2 (by
      rw [List.nodup_append]
      refine ⟨hn, by simp, ?_⟩
      intro a ha b hb e
      rw [List.mem_singleton] at hb
      subst hb; subst e
      exact hc ha)
    rw [List.append_assoc] at this
    exact this

theorem apartAt_spec {lq : List (AOper × Nat)} {df : List (Nat × Nat)} {y i : Nat} (h : apartAt lq df y i = true) : ApB lq df y i := by
  unfold apartAt at h
  split at h
  · rename_i yy xx e1 e2; exact ⟨yy, xx, e1, e2, h⟩
  · simp at h

theorem plan_of {ops : Array Oper} {lq : List (AOper × Nat)} {df : List (Nat × Nat)} {π als : List Nat} (hlen : lq.length = ops.size) (h : drawOk ops.toList (maskTab ops.toList []) lq df π als = true) : Plan ops lq df π als := by
  unfold drawOk at h
  simp only [Bool.and_eq_true] at h
  obtain ⟨⟨⟨⟨⟨⟨⟨h1, h2⟩, h3⟩, h4⟩, h5⟩, h6⟩, h7⟩, h8⟩ := h
  refine ⟨hlen, fun x hx d hd p hp => ?_, fun i o ho e he hb => ?_, by simpa using nodup_chk h3 (by simp), fun i => ⟨fun hi => ?_, fun hi => ?_⟩, fun l1 i l2 e hi y hy => ?_, fun l1 y l2 e hy i hi hia hm z hz => ?_, fun y hy => ?_⟩
  · have := List.all_eq_true.1 h1 x hx
    rw [hd] at this
    simpa using List.all_eq_true.1 this p hp
  · have hi := (Array.getElem?_eq_some_iff.1 ho).1
    have := List.all_eq_true.1 h2 i (by simp [hlen]; exact hi)
    rw [show ops.toList[i]? = some o by simpa using ho] at this
    have := List.all_eq_true.1 this e he
    simpa [hb] using this
  · simpa using List.all_eq_true.1 h4 i hi
  · simpa using List.all_eq_true.1 h5 i (by simpa using hi)
  · have := chkP_spec h6 l1 i l2 e
    simp only [List.nil_append, Bool.or_eq_true, List.contains_eq_mem, decide_eq_true_eq] at this
    rcases this with h | h
    · exact absurd h hi
    · have := List.all_eq_true.1 h y hy
      rw [Bool.or_eq_true] at this
      exact this.imp_right apartAt_spec
  · have := chkP_spec h7 l1 y l2 e
    simp only [List.nil_append, Bool.or_eq_true, List.contains_eq_mem, Bool.not_eq_true', decide_eq_false_iff_not] at this
    rcases this with h | h
    · exact absurd hy h
    · have := List.all_eq_true.1 h i (by simpa using hi)
      simp only [Bool.or_eq_true, decide_eq_true_eq, Bool.not_eq_true'] at this
      rcases this with (h | h) | h
      · exact absurd h hia
      · unfold MaskB at hm; rw [hm] at h; cases h
      · have := List.all_eq_true.1 h z hz
        simp only [Bool.or_eq_true, Bool.and_eq_true, Bool.not_eq_true', decide_eq_false_iff_not] at this
        exact this.imp_right fun k => ⟨k.1, apartAt_spec k.2⟩
  · have := List.all_eq_true.1 h8 y hy
    split at this
    · rename_i o q e
      simp only [Bool.and_eq_true, beq_iff_eq] at this
      obtain ⟨⟨a1, rfl⟩, a3⟩ := this
      split at a3
      · rename_i d hd
        refine ⟨o, d, e, a1, hd, fun i x hi hx => ?_⟩
        have := List.all_eq_true.1 a3 i (by have := (List.getElem?_eq_some_iff.1 hx).1; simpa using this)
        rw [hx] at this
        simp only [Bool.or_eq_true, beq_iff_eq, hi, false_or, Bool.and_eq_true, bne_iff_ne, ne_eq, Bool.not_eq_true', List.contains_eq_mem, decide_eq_false_iff_not] at this
        obtain ⟨⟨b1, b2⟩, b3⟩ := this
        refine ⟨b1, fun hr => ?_, fun c hc hr => ?_⟩
        · rcases b2 with h | h
          · exact absurd hr h
          · exact h
        · rw [hc] at b3
          simp only [Bool.or_eq_true, Bool.and_eq_true, Bool.not_eq_true', decide_eq_false_iff_not] at b3
          rcases b3 with h | h
          · exact absurd hr h
          · exact h
      · simp at a3
    · simp at this

/-! ### An object that an operation lays by itself -/
inductive AlV where
  | ptr
  | ra (sz n : Nat)
  | map
def AlV.at (n : Nat) : AlV → AV
  | .ptr => .ptr n 0
  | .ra sz m => .ra sz n 0 m
  | .map => .map n
def litO : AObj → Prop
  | .cells cs _ => ∀ c ∈ cs, litA c = true
  | .arr _ es _ => ∀ c ∈ es, litA c = true
  | .map es _ => es = []
  | .loop .. => False

theorem litA_cells {z : AV} (h : litA z = true) : ∀ c ∈ z.cells, litA c = true := by
  intro c hc
  cases z <;> simp only [litA] at h <;> first
    | (simp at h; done)
    | (simp only [AV.cells, List.mem_singleton] at hc; subst hc; rfl)
    | skip
  rename_i xs
  have := List.all_eq_true.1 h c hc
  cases c <;> first | rfl | (simp at this; done)

theorem al_spec {E : Env} {o : AOper} {τ : List AV} {H : Hp} {v : AV} {g : Option Hp} (h : isAl o = true) (e : actO E o τ H = some (v, g)) :
    ∃ ob av, litO ob ∧ v = AlV.at H.l.length av ∧ g = some (halloc H ob) ∧ ∀ H' : Hp, actO E o τ H' = some (AlV.at H'.l.length av, some (halloc H' ob)) := by
  simp only [isAl, Bool.and_eq_true, Option.isNone_iff_eq_none] at h
  obtain ⟨hg, hk⟩ := h
  have hact : ∀ H', actO E o τ H' = aopE E τ H' o.op := by intro H'; simp only [actO, hg, wantA]
  rw [hact] at e
  split at hk
  · rename_i t z ho
    rw [ho] at e
    simp only [aopE, aop] at e
    split at e
    · rename_i hz
      simp only [Option.some.injEq, Prod.mk.injEq] at e
      obtain ⟨rfl, rfl⟩ := e
      exact ⟨.cells z.cells t, .ptr, litA_cells hk, rfl, rfl, fun H' => by rw [hact, ho]; simp only [aopE, aop, hz, if_true]; rfl⟩
    · simp at e
  · rename_i et sz bytes z l c ho
    rw [ho] at e
    simp only [aopE, aop] at e
    split at e
    · rename_i k1 n k2 m e1 e2
      split at e
      · rename_i hz
        simp only [Option.some.injEq, Prod.mk.injEq] at e
        obtain ⟨rfl, rfl⟩ := e
        refine ⟨.arr sz (List.replicate n.toNat z) et, .ra sz n.toNat, ?_, rfl, rfl, fun H' => by rw [hact, ho]; simp only [aopE, aop, e1, e2]; rw [if_pos hz]; rfl⟩
        intro x hx
        rw [List.eq_of_mem_replicate hx]; exact hk
      · simp at e
    · simp at e
  · rename_i ho
    rw [ho] at e
    simp only [aopE, aop, Option.some.injEq, Prod.mk.injEq] at e
    obtain ⟨rfl, rfl⟩ := e
    exact ⟨.map [] 0, .map, rfl, rfl, rfl, fun H' => by rw [hact, ho]; rfl⟩
  · simp at hk

theorem actQ_al {E : Env} {o : AOper} {τ : List AV} {av : AlV} {ob : AObj} (h : ∀ H' : Hp, actO E o τ H' = some (AlV.at H'.l.length av, some (halloc H' ob))) (H : Hp) : actQ E 1 o τ H = some (AlV.at H.l.length av, some (halloc H ob)) := by
  simp only [actQ, h]
  rfl

theorem litA_rel {ι ι' : Io} {fz fz' : Fz} {x : AV} {v : Value} (hl : litA x = true) (h : VRel ι fz x v) : VRel ι' fz' x v := by
  cases x <;> simp only [litA] at hl <;> first
    | (simp at hl; done)
    | (simpa only [VRel] using h)
    | skip
  rename_i xs
  simp only [VRel] at h ⊢
  obtain ⟨cs, e, h⟩ := h
  refine ⟨cs, e, ?_⟩
  clear e
  generalize cs.toList = l at h
  induction xs generalizing l with
  | nil => simpa using h
  | cons y ys ih =>
    obtain ⟨u, us, rfl, h1, h2⟩ := VRels_cons_inv h
    simp only [List.all_cons, Bool.and_eq_true] at hl
    simp only [VRels_cons]
    refine ⟨?_, ih hl.2 _ h2⟩
    cases y <;> first
      | (simp only [VRel] at h1 ⊢; exact h1)
      | (simp at hl)
theorem litAs_rel {ι ι' : Io} {fz fz' : Fz} : ∀ {xs : List AV} {vs : List Value}, (∀ x ∈ xs, litA x = true) → VRels ι fz xs vs → VRels ι' fz' xs vs
  | [], vs, _, h => by simpa using h
  | x :: xs, vs, hl, h => by
    obtain ⟨u, us, rfl, h1, h2⟩ := VRels_cons_inv h
    simp only [VRels_cons]
    exact ⟨litA_rel (hl x (by simp)) h1, litAs_rel (fun y hy => hl y (by simp [hy])) h2⟩
theorem litO_rel {PC PC' : Code → AC → Prop} {ι ι' : Io} {fz fz' : Fz} {p : Pl} {w w' : World} {ob : AObj} (hl : litO ob) (hb : w'.heap[p.blk]? = w.heap[p.blk]?) (h : ORel PC ι fz p w ob) : ORel PC' ι' fz' p w' ob := by
  cases ob with
  | cells cs t => obtain ⟨c, fr, h1, h2, h3, h4, h5⟩ := h; exact ⟨c, fr, hb.trans h1, h2, h3, h4, litAs_rel hl h5⟩
  | arr sz es t => obtain ⟨c, fr, vs, h1, h2, h3, h4, h5, h6⟩ := h; exact ⟨c, fr, vs, hb.trans h1, h2, h3, h4, litAs_rel hl h5, h6⟩
  | map es clk => simp only [litO] at hl; subst hl; obtain ⟨ces, h1, h2, h3⟩ := h; exact ⟨ces, hb.trans h1, h2, h3⟩
  | loop st pend τ ps asg body => exact hl.elim
theorem AlV.rel {ι ι' : Io} {fz fz' : Fz} {p : Pl} {av : AlV} {cv : Value} {n : Nat} (h : VRel ι fz (AlV.at n av) cv) (hp : ι.l[n]? = some p) : VRel (ι'.add p) fz' (AlV.at ι'.l.length av) cv := by
  have hp' : (ι'.add p).l[ι'.l.length]? = some p := by simp
  cases av with
  | ptr => simp only [AlV.at, VRel] at h ⊢; obtain ⟨q, h1, h2⟩ := h; rw [hp] at h1; cases h1; exact ⟨p, hp', h2⟩
  | ra sz m => simp only [AlV.at, VRel] at h ⊢; obtain ⟨q, a, cap, h1, h2⟩ := h; rw [hp] at h1; cases h1; exact ⟨p, a, cap, hp', h2⟩
  | map => simp only [AlV.at, VRel] at h ⊢; obtain ⟨q, h1, h2⟩ := h; rw [hp] at h1; cases h1; exact ⟨p, hp', h2⟩

/-- A hidden block that an object takes up. -/
theorem RelH.adopt {PC : Code → AC → Prop} {ι : Io} {L : HL} {w : World} (h : RelH PC ι L w) {p : Pl} {ob : AObj} (hb : p.blk ∈ ι.x) (ho : ∀ ι1 fz1, ORel PC ι1 fz1 p w ob) :
    RelH PC ⟨ι.l ++ [p], ι.x.filter (· != p.blk)⟩ (L ++ [some ob]) w ∧ fzOf ⟨ι.l ++ [p], ι.x.filter (· != p.blk)⟩ (L ++ [some ob]) w = fzOf ι L w := by
  have hown : ∀ k, Owned ⟨ι.l ++ [p], ι.x.filter (· != p.blk)⟩ (L ++ [some ob]) k ↔ Owned ι L k ∨ p.blk = k := fun k => owned_alloc (ι := ι) h.len
  have hfz : fzOf ⟨ι.l ++ [p], ι.x.filter (· != p.blk)⟩ (L ++ [some ob]) w = fzOf ι L w := by
    funext k
    unfold fzOf
    have : (Owned ⟨ι.l ++ [p], ι.x.filter (· != p.blk)⟩ (L ++ [some ob]) k ∨ k ∈ ι.x.filter (· != p.blk)) ↔ (Owned ι L k ∨ k ∈ ι.x) := by
      rw [hown, List.mem_filter]
      simp only [bne_iff_ne, ne_eq]
      constructor
      · rintro ((h1 | rfl) | ⟨h1, _⟩)
        · exact .inl h1
        · exact .inr hb
        · exact .inr h1
      · rintro (h1 | h1)
        · exact .inl (.inl h1)
        · by_cases e : k = p.blk
          · exact .inl (.inr e.symm)
          · exact .inr ⟨h1, e⟩
    by_cases hc : Owned ι L k ∨ k ∈ ι.x
    · rw [if_pos hc, if_pos (this.2 hc)]
    · rw [if_neg hc, if_neg (fun h => hc (this.1 h))]
  have key : ∀ (i : Nat) (oi : AObj) (q : Pl), (L ++ [some ob])[i]? = some (some oi) → (ι.l ++ [p])[i]? = some q → (i < L.length ∧ L[i]? = some (some oi) ∧ ι.l[i]? = some q) ∨ (i = L.length ∧ oi = ob ∧ q = p) := by
    intro i oi q h1 h2
    by_cases hi : i < L.length
    · rw [List.getElem?_append_left hi] at h1
      rw [List.getElem?_append_left (by rw [h.len]; exact hi)] at h2
      exact .inl ⟨hi, h1, h2⟩
    · have hi2 : i < (L ++ [some ob]).length := (List.getElem?_eq_some_iff.1 h1).1
      have : i = L.length := by simp at hi2; omega
      subst this
      rw [← h.len] at h2
      simp at h1 h2
      exact .inr ⟨rfl, h1.symm, h2.symm⟩
  refine ⟨⟨by simp [h.len], fun i o' q h1 h2 => ?_, fun i j oi oj q r h1 h2 h3 h4 h5 => ?_, fun k hk => h.xlt k (List.mem_filter.1 hk).1, fun k hk => ?_⟩, hfz⟩
  · rw [hfz]
    rcases key i o' q h1 h2 with ⟨_, a, b⟩ | ⟨_, rfl, rfl⟩
    · exact (h.obj i o' q a b).move (List.prefix_append _ _) ⟨fun _ _ _ _ e => e⟩ rfl
    · exact ho _ _
  · rcases key i oi q h1 h3 with ⟨_, a1, b1⟩ | ⟨rfl, rfl, rfl⟩ <;> rcases key j oj r h2 h4 with ⟨_, a2, b2⟩ | ⟨rfl, rfl, rfl⟩
    · exact h.inj i j oi oj q r a1 a2 b1 b2 h5
    · exact absurd ⟨i, oi, q, a1, b1, h5⟩ (h.xno _ hb)
    · exact absurd ⟨j, oj, r, a2, b2, h5.symm⟩ (h.xno _ hb)
    · rfl
  · rw [hown]
    rw [List.mem_filter] at hk
    simp only [bne_iff_ne, ne_eq] at hk
    rintro (h1 | h1)
    · exact h.xno k hk.1 h1
    · exact hk.2 h1.symm

/-- A new object's block, hidden again. -/
theorem RelH.hide {PC : Code → AC → Prop} {ι ι' : Io} {L : HL} {w w' : World} {ob : AObj} {p : Pl} (h : RelH PC ι L w) (h' : RelH PC ι' (L ++ [some ob]) w') (s : Stp ι L w ι' (L ++ [some ob]) w') (hp : ι'.l[L.length]? = some p) :
    RelH PC ⟨ι.l, p.blk :: ι'.x⟩ L w' ∧ Stp ι L w ⟨ι.l, p.blk :: ι'.x⟩ L w' ∧ w.heap.size ≤ p.blk := by
  obtain ⟨t, ht⟩ := s.pre
  have hl' := h'.len
  have htl : t = [p] := by
    rw [← ht, List.length_append, h.len] at hl'
    have h1 : t.length = 1 := by simp at hl'; omega
    rw [← ht, List.getElem?_append_right (by rw [h.len]; exact Nat.le_refl _), h.len, Nat.sub_self] at hp
    match t, h1, hp with
    | [q], _, hp => simp at hp; rw [hp]
  subst htl
  have hob : (L ++ [some ob])[L.length]? = some (some ob) := by simp
  have hpo : Owned ι' (L ++ [some ob]) p.blk := ⟨L.length, ob, p, hob, hp, rfl⟩
  have hnew : ¬ Owned ι L p.blk := by
    rintro ⟨i, oi, q, h1, h2, h3⟩
    have hi := (List.getElem?_eq_some_iff.1 h1).1
    have := h'.inj i L.length oi ob q p (by rw [List.getElem?_append_left hi]; exact h1) hob (prefix_get s.pre h2) hp h3
    omega
  have hge : w.heap.size ≤ p.blk := by
    rcases Nat.lt_or_ge p.blk w.heap.size with h1 | h1
    · exact absurd hpo (s.frame _ h1 hnew).1
    · exact h1
  have hown : ∀ k, Owned ι' (L ++ [some ob]) k ↔ Owned ι L k ∨ p.blk = k := by
    intro k
    have : ι'.l = (ι.add p).l := ht.symm
    have e : Owned ι' (L ++ [some ob]) k ↔ Owned (ι.add p) (L ++ [some ob]) k := by unfold Owned; rw [this]
    rw [e]; exact owned_alloc h.len
  have hst : Stp ι L w ⟨ι.l, p.blk :: ι'.x⟩ L w' := by
    refine ⟨List.prefix_refl _, s.os, s.tape, s.output, s.size, fun k hk hn => ⟨hn, (s.frame k hk hn).2⟩, fun k hk => ?_⟩
    simp only [List.mem_cons]
    constructor
    · rintro (rfl | h1)
      · omega
      · exact (s.xs k hk).1 h1
    · intro h1; exact .inr ((s.xs k hk).2 h1)
  have hfz : FzLe (fzOf ι' (L ++ [some ob]) w') (fzOf ⟨ι.l, p.blk :: ι'.x⟩ L w') := by
    refine ⟨fun k c t f e => ?_⟩
    rw [fzOf_some'] at e ⊢
    rw [hown] at e
    refine ⟨⟨fun ho => e.1.1 (.inl ho), ?_⟩, e.2⟩
    simp only [List.mem_cons]
    rintro (rfl | h1)
    · exact e.1.1 (.inr rfl)
    · exact e.1.2 h1
  refine ⟨⟨h.len, fun i o q h1 h2 => ?_, h.inj, fun k hk => ?_, fun k hk => ?_⟩, hst, hge⟩
  · have hlt := (List.getElem?_eq_some_iff.1 h1).1
    exact ORel.shrink (ι := ⟨ι.l, p.blk :: ι'.x⟩) (ι' := ι') s.pre hfz (ORel.move (ι := ι) (ι' := ⟨ι.l, p.blk :: ι'.x⟩) (List.prefix_refl ι.l) (FzLe.refl _) rfl (h.obj i o q h1 h2)) (h'.obj i o q (by rw [List.getElem?_append_left hlt]; exact h1) (prefix_get s.pre h2))
  · rcases List.mem_cons.1 hk with rfl | hk
    · exact (h'.obj _ _ _ hob hp).lt
    · exact h'.xlt k hk
  · rcases List.mem_cons.1 hk with rfl | hk
    · exact hnew
    · exact fun ho => h'.xno k hk ((hown k).2 (.inl ho))

/-- An object laid ahead of its turn. -/
structure Early where
  i : Nat
  d : Nat
  p : Pl
  cv : Value
  ob : AObj
  av : AlV

structure EF (lq : List (AOper × Nat)) (E : Env) (als : List Nat) (s0 : Nat) (ι : Io) (τ τc : List AV) (w : World) (e : Early) : Prop where
  hid : e.p.blk ∈ ι.x
  new : s0 ≤ e.p.blk
  tmp : τc.getD e.d avU = .lit e.cv ∨ τc.length ≤ e.d
  mem : e.i ∈ als
  act : ∃ o, lq[e.i]? = some (o, 1) ∧ o.dst = some e.d ∧ ∀ H' : Hp, actO E o τ H' = some (AlV.at H'.l.length e.av, some (halloc H' e.ob))
  val : ∀ (ι1 : Io) (fz1 : Fz), VRel (ι1.add e.p) fz1 (AlV.at ι1.l.length e.av) e.cv
  obj : ∀ (PC : Code → AC → Prop) (ι1 : Io) (fz1 : Fz) (w' : World), w'.heap[e.p.blk]? = w.heap[e.p.blk]? → ORel PC ι1 fz1 e.p w' e.ob

structure Inv (P : Program) (lq : List (AOper × Nat)) (E : Env) (als : List Nat) (ι₀ : Io) (L₀ : HL) (w₀ : World) (ds : Nat) (Es : List Early) (τ : List AV) (H : Hp) (a : Act) (w : World) : Prop where
  ex : ∃ (ι : Io) (τc : List AV), Stp ι₀ L₀ w₀ ι H.l w ∧ RelH (PCof P) ι H.l w ∧ VRels ι (fzOf ι H.l w) τc a.tmps.toList ∧ DfOK ds ι H.l w a.defers ∧ τc.length = τ.length ∧
    (∀ t, (∀ e ∈ Es, e.d ≠ t) → τc.getD t avU = τ.getD t avU) ∧ (∀ e ∈ Es, EF lq E als w₀.heap.size ι τ τc w e) ∧ Es.Pairwise (fun x y => x.p.blk ≠ y.p.blk ∧ x.d ≠ y.d ∧ x.i ≠ y.i)

theorem sub_split {π A B : List Nat} {i : Nat} (h : (A ++ i :: B).Sublist π) : ∃ l1 l2, π = l1 ++ i :: l2 ∧ ∀ a ∈ A, a ∈ l1 := by
  obtain ⟨r1, r2, rfl, hA, hB⟩ := List.append_sublist_iff.1 h
  obtain ⟨s1, s2, rfl, hi, _⟩ := List.cons_sublist_iff.1 hB
  obtain ⟨t1, t2, rfl⟩ := List.append_of_mem hi
  exact ⟨r1 ++ t1, t2 ++ s2, by simp, fun a ha => List.mem_append_left _ (hA.subset ha)⟩

theorem getD_put {τ : List AV} {d t : Nat} {v : AV} (h : t ≠ d) : (aput (some d) v τ).getD t avU = τ.getD t avU := getD_aput fun x hx => by simp at hx; omega

/-- One object is taken up in its turn. -/
theorem inv_adopt {lq : List (AOper × Nat)} {als : List Nat} {ι₀ : Io} {L₀ : HL} {w₀ : World} {ds : Nat} {Es1 Es2 : List Early} {e : Early} {τ : List AV} {H : Hp} {a : Act} {w : World} {df : List (Nat × Nat)} {π : List Nat} {ops : Array Oper} (hpl : Plan ops lq df π als)
    (h : Inv P lq E als ι₀ L₀ w₀ ds (Es1 ++ e :: Es2) τ H a w) : Inv P lq E als ι₀ L₀ w₀ ds (Es1 ++ Es2) (aput (some e.d) (AlV.at H.l.length e.av) τ) (halloc H e.ob) a w := by
  obtain ⟨ι, τc, q1, q2, q3, q4, q5, q6, q7, q8⟩ := h.ex
  have he := q7 e (by simp)
  obtain ⟨r1, r2⟩ := q2.adopt (ob := e.ob) he.hid (fun ι1 fz1 => he.obj _ ι1 fz1 w rfl)
  have hpw := List.pairwise_append.1 q8
  have hpw2 := List.pairwise_cons.1 hpw.2.1
  have hne : ∀ x ∈ Es1 ++ Es2, x.p.blk ≠ e.p.blk ∧ x.d ≠ e.d ∧ x.i ≠ e.i := by
    intro x hx
    rcases List.mem_append.1 hx with hx | hx
    · exact hpw.2.2 x hx e (by simp)
    · have := hpw2.1 x hx; exact ⟨fun k => this.1 k.symm, fun k => this.2.1 k.symm, fun k => this.2.2 k.symm⟩
  refine ⟨⟨⟨ι.l ++ [e.p], ι.x.filter (· != e.p.blk)⟩, aput (some e.d) (AlV.at H.l.length e.av) τc, ?_, r1, ?_, ?_, ?_, ?_, ?_, ?_⟩⟩
  · refine ⟨q1.pre.trans (List.prefix_append _ _), q1.os, q1.tape, q1.output, q1.size, fun k hk hn => ?_, fun k hk => ?_⟩
    · have := q1.frame k hk hn
      refine ⟨?_, this.2⟩
      intro ho
      rcases (owned_alloc (ι := ι) (p := e.p) (o := e.ob) (k := k) q2.len).1 ho with h1 | h1
      · exact this.1 h1
      · have := he.new; omega
    · rw [List.mem_filter]
      simp only [bne_iff_ne, ne_eq]
      rw [q1.xs k hk]
      have := he.new
      exact ⟨fun h => h.1, fun h => ⟨h, by omega⟩⟩
  · have hb : VRels ⟨ι.l ++ [e.p], ι.x.filter (· != e.p.blk)⟩ (fzOf ⟨ι.l ++ [e.p], ι.x.filter (· != e.p.blk)⟩ (halloc H e.ob).l w) τc a.tmps.toList := by
      have : fzOf ⟨ι.l ++ [e.p], ι.x.filter (· != e.p.blk)⟩ (halloc H e.ob).l w = fzOf ι H.l w := r2
      rw [this]
      exact VRels.mono (List.prefix_append _ _) (FzLe.refl _) _ _ q3
    have hv : VRel ⟨ι.l ++ [e.p], ι.x.filter (· != e.p.blk)⟩ (fzOf ⟨ι.l ++ [e.p], ι.x.filter (· != e.p.blk)⟩ (halloc H e.ob).l w) (AlV.at H.l.length e.av) e.cv := by
      have := he.val ⟨ι.l, ι.x.filter (· != e.p.blk)⟩ (fzOf ⟨ι.l ++ [e.p], ι.x.filter (· != e.p.blk)⟩ (halloc H e.ob).l w)
      rw [← q2.len]; exact this
    -- the temporary holds the object's address
    have key : ∀ (τ : List AV) (l : List Value), VRels ⟨ι.l ++ [e.p], ι.x.filter (· != e.p.blk)⟩ (fzOf ⟨ι.l ++ [e.p], ι.x.filter (· != e.p.blk)⟩ (halloc H e.ob).l w) τ l → ∀ d, (τ.getD d avU = .lit e.cv ∨ τ.length ≤ d) → VRels ⟨ι.l ++ [e.p], ι.x.filter (· != e.p.blk)⟩ (fzOf ⟨ι.l ++ [e.p], ι.x.filter (· != e.p.blk)⟩ (halloc H e.ob).l w) (τ.set d (AlV.at H.l.length e.av)) l := by
      intro τ
      induction τ with
      | nil => intro l hl d _; simpa using hl
      | cons y ys ih =>
        intro l hl d hd
        obtain ⟨u, us, rfl, h1, h2⟩ := VRels_cons_inv hl
        cases d with
        | zero =>
          simp only [List.getD_cons_zero, List.length_cons, Nat.le_zero_eq, Nat.add_eq_zero_iff, Nat.succ_ne_zero, and_false, or_false] at hd
          subst hd
          simp only [VRel] at h1
          subst h1
          simp only [List.set_cons_zero, VRels_cons]
          exact ⟨hv, h2⟩
        | succ d =>
          simp only [List.getD_cons_succ, List.length_cons, Nat.add_le_add_iff_right] at hd
          simp only [List.set_cons_succ, VRels_cons]
          exact ⟨h1, ih us h2 d hd⟩
    exact key _ _ hb _ he.tmp
  · obtain ⟨Ds, e1, hn, hD⟩ := q4
    refine ⟨Ds, e1, hn, fun D hm => ?_⟩
    obtain ⟨g1, g2, g3⟩ := hD D hm
    refine ⟨g1, g2, fun ho => ?_⟩
    rcases (owned_alloc (ι := ι) (p := e.p) (o := e.ob) (k := D) q2.len).1 ho with h1 | h1
    · exact g3 h1
    · have hoo := he.obj (PCof P) ι (fzOf ι H.l w) w rfl
      rw [← h1] at g2
      cases hob : e.ob with
      | cells cs t => rw [hob] at hoo; obtain ⟨c, fr, k1, _⟩ := hoo; rw [g2] at k1; cases k1
      | arr sz es t => rw [hob] at hoo; obtain ⟨c, fr, vs, k1, _⟩ := hoo; rw [g2] at k1; cases k1
      | map es clk => rw [hob] at hoo; obtain ⟨ces, k1, _⟩ := hoo; rw [g2] at k1; cases k1
      | loop st pend τ ps asg body => rw [hob] at hoo; obtain ⟨l, k1, _⟩ := hoo; rw [g2] at k1; cases k1
  · rw [aput_len', aput_len', q5]
  · intro t ht
    by_cases hte : t = e.d
    · subst hte
      by_cases hlt : e.d < τ.length
      · simp [aput, hlt, q5]
      · have h1 : τ.getD e.d avU = avU := by rw [List.getD_eq_getElem?_getD, List.getElem?_eq_none (by omega)]; rfl
        simp only [aput]
        rw [List.set_eq_of_length_le (by omega), List.set_eq_of_length_le (by omega), h1, List.getD_eq_getElem?_getD, List.getElem?_eq_none (by omega)]; rfl
    · rw [getD_put hte, getD_put hte]
      refine q6 t fun x hx => ?_
      rcases List.mem_append.1 hx with hx | hx
      · exact ht x (by simp [hx])
      · rcases List.mem_cons.1 hx with rfl | hx
        · exact fun k => hte k.symm
        · exact ht x (by simp [hx])
  · intro x hx
    have hx' := q7 x (by rcases List.mem_append.1 hx with hx | hx <;> simp [hx])
    have hn := hne x hx
    obtain ⟨o, o1, o2, o3⟩ := hx'.act
    refine ⟨?_, hx'.new, ?_, hx'.mem, ⟨o, o1, o2, fun H' => ?_⟩, hx'.val, hx'.obj⟩
    · show x.p.blk ∈ List.filter _ _
      rw [List.mem_filter]
      exact ⟨hx'.hid, by simpa using hn.1⟩
    · rw [getD_put hn.2.1, aput_len']; exact hx'.tmp
    · rw [← o3 H']
      refine actO_congr fun m hm => getD_put ?_
      rintro rfl
      obtain ⟨oe, oe1, oe2, _⟩ := he.act
      obtain ⟨oy, dy, k1, _, k3, k4⟩ := hpl.al x.i hx'.mem
      rw [o1] at k1
      cases k1
      exact ((k4 e.i (oe, 1) (fun k => hn.2.2 k.symm) oe1).2.2 _ oe2 hm).1 he.mem
  · rw [List.pairwise_append]
    exact ⟨hpw.1, hpw2.2, fun x hx y hy => hpw.2.2 x hx y (by simp [hy])⟩

/-- No object waits that could be taken up. -/
def Normal (lq : List (AOper × Nat)) (df : List (Nat × Nat)) (R : List Nat) (Es : List Early) : Prop :=
  ∀ A y B, R = A ++ y :: B → (∃ e ∈ Es, e.i = y) → (∀ z ∈ A, ∀ e ∈ Es, e.i ≠ z) → ∃ z ∈ A, ¬ ApB lq df z y

theorem lqm {lq : List (AOper × Nat)} (A B : List Nat) (i : Nat) (x : AOper × Nat) (h : lq[i]? = some x) : (A ++ i :: B).filterMap (lq[·]?) = A.filterMap (lq[·]?) ++ x :: B.filterMap (lq[·]?) := by
  rw [List.filterMap_append, List.filterMap_cons, h]

theorem first_early {Es : List Early} : ∀ (R : List Nat) (y : Nat), y ∈ R → (∃ e ∈ Es, e.i = y) → ∃ A z B, R = A ++ z :: B ∧ (∃ e ∈ Es, e.i = z) ∧ (∀ x ∈ A, ∀ e ∈ Es, e.i ≠ x)
  | [], y, h, _ => by simp at h
  | x :: R, y, h, he => by
    by_cases hx : ∃ e ∈ Es, e.i = x
    · exact ⟨[], x, R, rfl, hx, by simp⟩
    · rcases List.mem_cons.1 h with rfl | h
      · exact absurd he hx
      · obtain ⟨A, z, B, h1, h2, h3⟩ := first_early R y h he
        refine ⟨x :: A, z, B, by rw [h1]; rfl, h2, fun k hk e he' => ?_⟩
        rcases List.mem_cons.1 hk with rfl | hk
        · exact fun e2 => hx ⟨e, he', e2⟩
        · exact h3 k hk e he'

theorem norm_inv {lq : List (AOper × Nat)} {als : List Nat} {ι₀ : Io} {L₀ : HL} {w₀ : World} {ds : Nat} {a : Act} {w : World} {df : List (Nat × Nat)} {π : List Nat} {ops : Array Oper} (hE : EOK P E) (hpl : Plan ops lq df π als) :
    ∀ (m : Nat) (R Rd : List Nat) (Es : List Early) (τ : List AV) (H : Hp) (r : List AV × Hp), Es.length = m → R.Sublist π → (∀ e ∈ Es, e.i ∈ R) → difOK τ df = true → Inv P lq E als ι₀ L₀ w₀ ds Es τ H a w → execQ E Rd (R.filterMap (lq[·]?)) τ H = some r →
    ∃ (R' Rd' : List Nat) (Es' : List Early) (τ' : List AV) (H' : Hp), R'.Sublist R ∧ (∀ i ∈ R, i ∈ R' ∨ ∃ e ∈ Es, e.i = i) ∧ (∀ e ∈ Es', e ∈ Es ∧ e.i ∈ R') ∧ difOK τ' df = true ∧ Inv P lq E als ι₀ L₀ w₀ ds Es' τ' H' a w ∧ execQ E Rd' (R'.filterMap (lq[·]?)) τ' H' = some r ∧ Normal lq df R' Es' ∧ (∀ i ∈ R', (∃ e ∈ Es, e.i = i) → ∃ e ∈ Es', e.i = i) := by
  intro m
  induction m with
  | zero =>
    intro R Rd Es τ H r hm hs hin hdo hI hx
    have : Es = [] := List.length_eq_zero_iff.1 hm
    subst this
    refine ⟨R, Rd, [], τ, H, List.Sublist.refl _, fun i hi => .inl hi, by simp, hdo, hI, hx, fun A y B _ ⟨e, he, _⟩ => by simp at he, fun i _ ⟨e, he, _⟩ => by simp at he⟩
  | succ m ih =>
    intro R Rd Es τ H r hm hs hin hdo hI hx
    by_cases hn : Normal lq df R Es
    · exact ⟨R, Rd, Es, τ, H, List.Sublist.refl _, fun i hi => .inl hi, fun e he => ⟨he, hin e he⟩, hdo, hI, hx, hn, fun i _ h => h⟩
    · unfold Normal at hn
      simp only [Classical.not_forall] at hn
      obtain ⟨A, y, B, hR, ⟨e, he, hey⟩, hA, hap⟩ := hn
      have hap' : ∀ z ∈ A, ApB lq df z y := fun z hz => Classical.byContradiction fun hc => hap ⟨z, hz, hc⟩
      subst hR; subst hey
      obtain ⟨Es1, Es2, rfl⟩ := List.append_of_mem he
      obtain ⟨ι, τc, _, _, _, _, _, _, q7, q8⟩ := hI.ex
      have hef := q7 e (by simp)
      obtain ⟨o, o1, o2, o3⟩ := hef.act
      have hsp := sub_split hs
      rw [lqm A B e.i (o, 1) o1] at hx
      obtain ⟨u, g, _, f1, f2⟩ := front (E := E) hE.le (x := (o, 1)) (B := B.filterMap (lq[·]?)) (A.filterMap (lq[·]?)) (df := df) (r := r) hdo (fun yy hyy => by
        obtain ⟨z, hz, hzz⟩ := List.mem_filterMap.1 hyy
        refine ⟨hpl.dstdf yy (List.mem_of_getElem? hzz), ?_⟩
        obtain ⟨y1, x1, k1, k2, k3⟩ := hap' z hz
        rw [hzz] at k1; cases k1
        rw [o1] at k2; cases k2
        exact k3) hx
      have hu : u = AlV.at H.l.length e.av ∧ g = some (halloc H e.ob) := by
        rw [actQ_al o3] at f1
        simp only [Option.some.injEq, Prod.mk.injEq] at f1
        exact ⟨f1.1.symm, f1.2.symm⟩
      obtain ⟨rfl, rfl⟩ := hu
      have o2' : ((o, 1) : AOper × Nat).1.dst = some e.d := o2
      rw [o2'] at f2
      rw [← List.filterMap_append] at f2
      have hdo' : difOK (aput (some e.d) (AlV.at H.l.length e.av) τ) df = true := (difOK_put (fun d hd => hpl.dstdf (o, 1) (List.mem_of_getElem? o1) d (by rw [← hd]; exact o2))).trans hdo
      have hnd : (A ++ e.i :: B).Nodup := hs.nodup hpl.nod
      have hq8 := List.pairwise_append.1 q8
      have hne : ∀ x ∈ Es1 ++ Es2, x.i ≠ e.i := by
        intro x hx
        rcases List.mem_append.1 hx with hx | hx
        · exact (hq8.2.2 x hx e (by simp)).2.2
        · exact fun k => ((List.pairwise_cons.1 hq8.2.1).1 x hx).2.2 k.symm
      have hsubl : (A ++ B).Sublist (A ++ e.i :: B) := List.Sublist.append (List.Sublist.refl _) ((List.Sublist.refl _).cons _)
      obtain ⟨R', Rd', Es', τ', H', g1, g2, g3, g4, g5, g6, g7, g8⟩ := ih (A ++ B) _ (Es1 ++ Es2) _ _ r (by simp at hm ⊢; omega) (hsubl.trans hs) (fun x hx => by
        have h1 := hin x (by rcases List.mem_append.1 hx with hx | hx <;> simp [hx])
        rcases List.mem_append.1 h1 with h1 | h1
        · simp [h1]
        · rcases List.mem_cons.1 h1 with h1 | h1
          · exact absurd h1 (hne x hx)
          · simp [h1]) hdo' (inv_adopt hpl hI) f2
      refine ⟨R', Rd', Es', τ', H', g1.trans hsubl, fun i hi => ?_, fun x hx => ?_, g4, g5, g6, g7, fun i hi ⟨x, hx, hxi⟩ => ?_⟩
      · rcases List.mem_append.1 hi with h1 | h1
        · rcases g2 i (by simp [h1]) with h | ⟨x, hx, hxi⟩
          · exact .inl h
          · exact .inr ⟨x, by rcases List.mem_append.1 hx with hx | hx <;> simp [hx], hxi⟩
        · rcases List.mem_cons.1 h1 with rfl | h1
          · exact .inr ⟨e, by simp, rfl⟩
          · rcases g2 i (by simp [h1]) with h | ⟨x, hx, hxi⟩
            · exact .inl h
            · exact .inr ⟨x, by rcases List.mem_append.1 hx with hx | hx <;> simp [hx], hxi⟩
      · obtain ⟨k1, k2⟩ := g3 x hx
        exact ⟨by rcases List.mem_append.1 k1 with k1 | k1 <;> simp [k1], k2⟩
      · refine g8 i hi ⟨x, ?_, hxi⟩
        rcases List.mem_append.1 hx with hx | hx
        · simp [hx]
        · rcases List.mem_cons.1 hx with rfl | hx
          · exfalso
            subst hxi
            have := List.nodup_append.1 hnd
            rcases List.mem_append.1 (g1.subset hi) with h1 | h1
            · exact this.2.2 _ h1 _ (by simp) rfl
            · exact (List.nodup_cons.1 this.2.1).1 h1
          · simp [hx]

theorem any_sound {md : Region.Mode} {ops : Array Oper} {lq : List (AOper × Nat)} {df : List (Nat × Nat)} {π als : List Nat} {Q : Exit → Act → World → Prop} (hE : EOK P E) (hpl : Plan ops lq df π als) (hp : ∀ (i : Nat) (o : Oper) (x : AOper × Nat), ops[i]? = some o → lq[i]? = some x → pOperE P ops o = some x.1)
    (hord : orders ops.toList = true) {ι₀ : Io} {L₀ : HL} {w₀ : World} {ds : Nat} {τ' : List AV} {H' : Hp} (hQ : ∀ a' w', At P ι₀ L₀ w₀ ds τ' H'.l a' w' → Q .normal a' w') :
    ∀ (n : Nat) (U R Rd : List Nat) (Es : List Early) (listed : Array Bool) (τ : List AV) (H : Hp) (a : Act) (w : World), U.length = n → U.Nodup → (∀ i, i ∈ U ↔ i < ops.size ∧ listed.getD i true = false) → R.Sublist π → (∀ i, i ∈ R ↔ i ∈ U ∨ ∃ e ∈ Es, e.i = i) → (∀ e ∈ Es, e.i ∉ U) →
    listed.size = ops.size → Closed ops listed → difOK τ df = true → Inv P lq E als ι₀ L₀ w₀ ds Es τ H a w → execQ E Rd (R.filterMap (lq[·]?)) τ H = some (τ', H') → wpAnyIn (Fr ro) 0 P md ops Q n listed a w := by
  have hbm : ∀ e, Region.binds .any e = true → Region.binds md e = true := by
    intro e he
    cases hg : e.ground <;> simp [Region.binds, hg] at he ⊢
  intro n
  induction n with
  | zero =>
    intro U R Rd Es listed τ H a w hn hU0 hU hRs hR hEU hs hc hdo hI h
    have hUe : U = [] := List.length_eq_zero_iff.1 hn
    subst hUe
    obtain ⟨R', Rd', Es', τ2, H2, g1, g2, g3, g4, g5, g6, g7, g8⟩ := norm_inv hE hpl _ R Rd Es τ H _ rfl hRs (fun e he => (hR e.i).2 (.inr ⟨e, he, rfl⟩)) hdo hI h
    have hR' : R' = [] := by
      cases hR0 : R' with
      | nil => rfl
      | cons y B =>
        exfalso
        have hy : y ∈ R := g1.subset (by rw [hR0]; simp)
        obtain ⟨e, he, hey⟩ := ((hR y).1 hy).resolve_left (by simp)
        obtain ⟨e', he', hey'⟩ := g8 y (by rw [hR0]; simp) ⟨e, he, hey⟩
        obtain ⟨z, hz, _⟩ := g7 [] y B hR0 ⟨e', he', hey'⟩ (by simp)
        simp at hz
    have hEs : Es' = [] := by
      cases hE0 : Es' with
      | nil => rfl
      | cons e _ => have := (g3 e (by rw [hE0]; simp)).2; rw [hR'] at this; simp at this
    subst hR'; subst hEs
    simp only [List.filterMap_nil, execQ, Option.some.injEq, Prod.mk.injEq] at g6
    obtain ⟨rfl, rfl⟩ := g6
    refine ⟨?_, hQ a w ?_⟩
    · unfold Region.ready
      rw [List.filter_eq_nil_iff]
      intro i hi hh
      simp only [List.mem_range] at hi
      simp only [Bool.and_eq_true, Bool.not_eq_true'] at hh
      exact absurd ((hU i).2 ⟨hi, hh.1⟩) (by simp)
    · obtain ⟨ι, τc, q1, q2, q3, q4, q5, q6, _, _⟩ := g5.ex
      have : τc = τ2 := by
        apply List.ext_getElem? 
        intro t
        have := q6 t (by simp)
        rw [List.getD_eq_getElem?_getD, List.getD_eq_getElem?_getD] at this
        by_cases ht : t < τ2.length
        · rw [List.getElem?_eq_getElem ht, List.getElem?_eq_getElem (by omega : t < τc.length)] at this ⊢
          simpa using this
        · rw [List.getElem?_eq_none (by omega), List.getElem?_eq_none (by omega)]
      subst this
      exact ⟨⟨ι, q1, q2, q3, q4⟩⟩
  | succ n ih =>
    intro U R0 Rd0 Es0 listed τ0 H0 a w hn hU0 hU hRs0 hR0 hEU0 hs hc hdo0 hI0 hx0
    obtain ⟨R, Rd, Es, τ, H, g1, g2, g3, hdo, hI, h, hnf, g8⟩ := norm_inv hE hpl _ R0 Rd0 Es0 τ0 H0 _ rfl hRs0 (fun e he => (hR0 e.i).2 (.inr ⟨e, he, rfl⟩)) hdo0 hI0 hx0
    have hRs : R.Sublist π := g1.trans hRs0
    have hEU : ∀ e ∈ Es, e.i ∉ U := fun e he => hEU0 e (g3 e he).1
    have hR : ∀ i, i ∈ R ↔ i ∈ U ∨ ∃ e ∈ Es, e.i = i := by
      intro i
      constructor
      · intro hi
        rcases (hR0 i).1 (g1.subset hi) with h1 | h1
        · exact .inl h1
        · exact .inr (g8 i hi h1)
      · rintro (h1 | ⟨e, he, rfl⟩)
        · rcases g2 i ((hR0 i).2 (.inl h1)) with h2 | ⟨e, he, hei⟩
          · exact h2
          · exact absurd h1 (by rw [← hei]; exact hEU0 e he)
        · exact (g3 e he).2
    have ready_spec : ∀ i, i ∈ Region.ready md ops listed ↔ i < ops.size ∧ listed.getD i true = false ∧ ∃ o, ops[i]? = some o ∧ ∀ e ∈ o.after.toList, Region.binds md e = true → listed.getD e.on false = true := by
      intro i
      unfold Region.ready
      rw [List.mem_filter]
      simp only [List.mem_range, Bool.and_eq_true, Bool.not_eq_true']
      constructor
      · rintro ⟨h1, h2, h3⟩
        refine ⟨h1, h2, ?_⟩
        rw [Array.getElem?_eq_getElem h1] at h3
        refine ⟨ops[i], Array.getElem?_eq_getElem h1, ?_⟩
        simp only [Option.map_some, Option.getD_some] at h3
        intro e he hb
        have := (Array.all_eq_true_iff_forall_mem.1 h3) e (by simpa using he)
        simpa [hb] using this
      · rintro ⟨h1, h2, o, ho, h3⟩
        refine ⟨h1, h2, ?_⟩
        rw [ho]
        simp only [Option.map_some, Option.getD_some]
        rw [Array.all_eq_true_iff_forall_mem]
        intro e he
        by_cases hb : Region.binds md e = true
        · simp [h3 e (by simpa using he) hb]
        · simp [hb]
    refine ⟨?_, ?_⟩
    · intro hnil
      exfalso
      cases U with
      | nil => simp at hn
      | cons i U =>
        have hi := (hU i).1 (by simp)
        obtain ⟨j, o, g1, g2, g3, g4⟩ := orders_go (md := md) hord (p := fun k => !listed.getD k true) ⟨i, by simpa using hi.1, by simp [hi.2]⟩ (fun k hk => by
          have : ¬ k < listed.size := by simp at hk; omega
          simp [Array.getD, this])
        have hmem : j ∈ Region.ready md ops listed := by
          rw [ready_spec]
          have g3' : ops[j]? = some o := by simpa using g3
          refine ⟨by simpa using g1, by simpa using g2, o, g3', fun e he hb => ?_⟩
          obtain ⟨k1, k2⟩ := g4 e he hb
          have hsz : e.on < listed.size := by simp at k2; omega
          simp only [Array.getD, hsz, dite_true, Bool.not_eq_false'] at k1 ⊢
          exact k1
        rw [hnil] at hmem
        simp at hmem
    intro i hi
    obtain ⟨h1, h2, o, ho, h3m⟩ := (ready_spec i).1 hi
    have h3 : ∀ e ∈ o.after.toList, Region.binds .any e = true → listed.getD e.on false = true := fun e he hb => h3m e he (hbm e hb)
    have hiU : i ∈ U := (hU i).2 ⟨h1, h2⟩
    have hiR : i ∈ R := (hR i).2 (.inl hiU)
    have hUn : ∀ j, j ∈ U → listed.getD j false = false := by
      intro j hj
      obtain ⟨k1, k2⟩ := (hU j).1 hj
      have hjs : j < listed.size := by omega
      simp only [Array.getD, hjs, dite_true] at k2 ⊢
      exact k2
    -- what an operation that has run stands behind has run
    have hmask : ∀ k ok, ops[k]? = some ok → (∀ e ∈ ok.after.toList, Region.binds .any e = true → listed.getD e.on false = true) → ∀ j, MaskB ops k j → j ∉ U := by
      intro k ok hok hk j hj hjU
      have := mask_ok hc ops.toList [] (fun k => by simp) (fun k o hk => by simp at hk) k ok hok hk j hj
      rw [hUn j hjU] at this
      cases this
    have hmi : ∀ j, MaskB ops i j → j ∉ U := hmask i o ho h3
    have hlisted : ∀ e ∈ Es, listed.getD e.i true = true ∧ e.i < ops.size := by
      intro e he
      have hlt := (hpl.cov e.i).1 (hRs.subset ((hR e.i).2 (.inr ⟨e, he, rfl⟩)))
      refine ⟨?_, hlt⟩
      cases hl : listed.getD e.i true with
      | true => rfl
      | false => exact absurd ((hU e.i).2 ⟨hlt, hl⟩) (hEU e he)
    obtain ⟨ι, τc, q1, q2, q3, q4, q5, q6, q7, q8⟩ := hI.ex
    -- no waiting object is one that the operation stands behind
    have hnodep : i ∉ als → ∀ e ∈ Es, ¬ MaskB ops i e.i := by
      intro hia e he hm
      have heR : e.i ∈ R := (hR e.i).2 (.inr ⟨e, he, rfl⟩)
      obtain ⟨A', B', hRe⟩ := List.append_of_mem heR
      have fin : ∀ A1 y1 B1, R = A1 ++ y1 :: B1 → (∃ e ∈ Es, e.i = y1) → (∀ x ∈ A1, ∀ e ∈ Es, e.i ≠ x) → MaskB ops i y1 → False := by
        intro A1 y1 B1 hR1 he1 hA1 hm1
        obtain ⟨z, hz, hnz⟩ := hnf A1 y1 B1 hR1 he1 hA1
        obtain ⟨l1, l2, hπ, hl1⟩ := sub_split (by rw [← hR1]; exact hRs : (A1 ++ y1 :: B1).Sublist π)
        obtain ⟨e1, he1', hey⟩ := he1
        have hya : y1 ∈ als := by rw [← hey]; exact (q7 e1 he1').mem
        rcases hpl.c1 l1 y1 l2 hπ hya i h1 hia hm1 z (hl1 z hz) with hc1 | ⟨_, hc1⟩
        · have hzU := hmi z hc1
          have hzR : z ∈ R := by rw [hR1]; simp [hz]
          rcases (hR z).1 hzR with h | ⟨e2, he2, hez⟩
          · exact hzU h
          · exact hA1 z hz e2 he2 hez
        · exact hnz hc1
      by_cases hex : ∃ y ∈ A', ∃ e ∈ Es, e.i = y
      · obtain ⟨y, hy, hye⟩ := hex
        obtain ⟨A1, y1, B1, hA', hy1, hA1⟩ := first_early A' y hy hye
        refine fin A1 y1 (B1 ++ e.i :: B') (by rw [hRe, hA']; simp) hy1 hA1 ?_
        obtain ⟨l1, l2, hπ, hl1⟩ := sub_split (by rw [← hRe]; exact hRs : (A' ++ e.i :: B').Sublist π)
        rcases hpl.c1 l1 e.i l2 hπ (q7 e he).mem i h1 hia hm y1 (hl1 y1 (by rw [hA']; simp)) with hc1 | ⟨hna, _⟩
        · exact hc1
        · obtain ⟨e1, he1, hey1⟩ := hy1
          exact absurd ((q7 e1 he1).mem) (by rw [hey1]; exact hna)
      · exact fin A' e.i B' hRe ⟨e, he, rfl⟩ (fun x hx e2 he2 hex2 => hex ⟨x, hx, e2, he2, hex2⟩) hm
    have hset : ∀ j, (listed.setIfInBounds i true).getD j true = (if i = j then true else listed.getD j true) := by
      intro j
      simp only [Array.getD_eq_getD_getElem?, Array.getElem?_setIfInBounds]
      by_cases e : i = j
      · subst e; simp [hs, h1]
      · simp [e]
    have hset' : ∀ j, j < listed.size → (listed.setIfInBounds i true).getD j false = (if i = j then true else listed.getD j false) := by
      intro j hj
      simp only [Array.getD_eq_getD_getElem?, Array.getElem?_setIfInBounds]
      by_cases e : i = j
      · subst e; simp [hj]
      · simp [e]
    have hU' : ∀ j, j ∈ U.erase i ↔ j < ops.size ∧ (listed.setIfInBounds i true).getD j true = false := by
      intro j
      rw [hset, hU0.mem_erase_iff, hU]
      by_cases e : i = j
      · subst e; simp
      · simp [e, Ne.symm e]
    have hc' : Closed ops (listed.setIfInBounds i true) := by
      intro k ok hok' hk e he hb
      by_cases hb2 : e.on < listed.size
      · rw [hset' _ hb2]
        rw [hset] at hk
        by_cases e1 : i = k
        · subst e1
          rw [ho] at hok'; cases hok'
          rw [h3 e he hb]; simp
        · simp only [e1, if_false] at hk
          rw [hc k ok hok' hk e he hb]; simp
      · exfalso
        have := hpl.back k ok hok' e he hb
        have := (Array.getElem?_eq_some_iff.1 hok').1
        omega
    have hn' : (U.erase i).length = n := by rw [List.length_erase_of_mem hiU, hn]; rfl
    have hkeep : ∀ {ι' : Io} {L' : HL} {w' : World}, Stp ι H.l w ι' L' w' → ∀ e ∈ Es, e.p.blk ∈ ι'.x ∧ w'.heap[e.p.blk]? = w.heap[e.p.blk]? := by
      intro ι' L' w' s e he
      have hlt := q2.xlt _ (q7 e he).hid
      exact ⟨(s.xs _ hlt).2 (q7 e he).hid, (s.frame _ hlt (q2.xno _ (q7 e he).hid)).2⟩
    obtain ⟨A, B, hRAB⟩ := List.append_of_mem hiR
    have hx : i < lq.length := by rw [hpl.hlen]; exact h1
    have hxe : lq[i]? = some lq[i] := List.getElem?_eq_getElem hx
    by_cases hia : i ∈ als
    · obtain ⟨oa, d, k1, k2, k3, k4⟩ := hpl.al i hia
      rw [hRAB, lqm A B i _ k1] at h
      -- what it comes to in its turn
      have hrun : ∀ (A : List (AOper × Nat)) (x : AOper × Nat) (B : List (AOper × Nat)) (Rd : List Nat) (τ : List AV) (H : Hp) (r : List AV × Hp), execQ E Rd (A ++ x :: B) τ H = some r → ∃ τ1 H1 v g, actQ E x.2 x.1 τ1 H1 = some (v, g) ∧ ∀ t, (∀ y ∈ A, y.1.dst ≠ some t) → τ1.getD t avU = τ.getD t avU := by
        intro A
        induction A with
        | nil =>
          intro x B Rd τ H r hr
          simp only [List.nil_append, execQ] at hr
          split at hr
          · split at hr
            · rename_i v g hv; exact ⟨τ, H, v, g, hv, fun t _ => rfl⟩
            · simp at hr
          · simp at hr
        | cons y A ihA =>
          intro x B Rd τ H r hr
          simp only [List.cons_append, execQ] at hr
          split at hr
          · split at hr
            · rename_i v g hv
              obtain ⟨τ1, H1, v1, g1, e1, e2⟩ := ihA x B _ _ _ r hr
              refine ⟨τ1, H1, v1, g1, e1, fun t ht => ?_⟩
              rw [e2 t fun y hy => ht y (by simp [hy])]
              exact getD_aput fun c hc => by intro e; subst e; exact ht y (by simp) hc
            · simp at hr
          · simp at hr
      obtain ⟨τ1, H1, v1, gg1, e1, e2⟩ := hrun _ _ _ _ _ _ _ h
      have hnw : ∀ t ∈ oa.reads, ∀ y ∈ A.filterMap (lq[·]?), y.1.dst ≠ some t := by
        intro t ht y hy hyd
        obtain ⟨z, hz, hzz⟩ := List.mem_filterMap.1 hy
        have hzi : z ≠ i := by
          rintro rfl
          have hnd : (A ++ z :: B).Nodup := by rw [← hRAB]; exact hRs.nodup hpl.nod
          exact (List.nodup_append.1 hnd).2.2 z hz z (by simp) rfl
        obtain ⟨hza, hzm⟩ := (k4 z y hzi hzz).2.2 t hyd ht
        have hzU := hmi z hzm
        have hzR : z ∈ R := by rw [hRAB]; simp [hz]
        rcases (hR z).1 hzR with h | ⟨e, he, hez⟩
        · exact hzU h
        · exact hza (by rw [← hez]; exact (q7 e he).mem)
      obtain ⟨dd, gg2, e1', _⟩ := actQ_inv e1
      have hact0 : actO E oa τ { l := H1.l, d := dd } = some (v1, gg2) := by
        rw [← e1']
        exact actO_congr fun t ht => (e2 t (hnw t ht)).symm
      obtain ⟨ob, av, hlit, _, _, hall⟩ := al_spec k2 hact0
      have hact : actO E oa τc H = some (AlV.at H.l.length av, some (halloc H ob)) := by
        rw [← hall H]
        refine actO_congr fun t ht => q6 t fun e he hed => ?_
        obtain ⟨oe, o1, o2, _⟩ := (q7 e he).act
        have hei : e.i ≠ i := fun k => hEU e he (by rw [k]; exact hiU)
        exact ((k4 e.i (oe, 1) hei o1).2.2 t (by rw [← hed]; exact o2) ht).1 (q7 e he).mem
      refine actO_sound2 hE ho (hp i o _ ho k1) q2 q3 hact fun ι' cv w' r1 r2 r3 => ?_
      simp only [Option.getD_some] at r1 r2 r3
      have hl' := r2.len
      have hpl' : H.l.length < ι'.l.length := by rw [hl']; simp [halloc]
      obtain ⟨p, hpp⟩ : ∃ p, ι'.l[H.l.length]? = some p := ⟨_, List.getElem?_eq_getElem hpl'⟩
      obtain ⟨s1, s2, s3⟩ := q2.hide (ob := ob) r2 r1 hpp
      have hoo := r2.obj H.l.length ob p (by simp [halloc]) hpp
      have hde : ∀ e ∈ Es, e.d ≠ d := by
        intro e he hed
        obtain ⟨oe, o1, o2, _⟩ := (q7 e he).act
        have hei : e.i ≠ i := fun k => hEU e he (by rw [k]; exact hiU)
        exact (k4 e.i (oe, 1) hei o1).1 (by rw [← hed]; exact o2)
      refine ih (U.erase i) R Rd (⟨i, d, p, cv, ob, av⟩ :: Es) (listed.setIfInBounds i true) τ H _ w' hn' (hU0.erase i) hU' hRs ?_ ?_ (by simpa using hs) hc' hdo ?_ ?_
      · intro j
        rw [hR, hU0.mem_erase_iff]
        constructor
        · rintro (hj | ⟨e, he, rfl⟩)
          · by_cases hji : j = i
            · exact .inr ⟨_, List.mem_cons_self, hji.symm⟩
            · exact .inl ⟨hji, hj⟩
          · exact .inr ⟨e, by simp [he], rfl⟩
        · rintro (⟨_, hj⟩ | ⟨e, he, rfl⟩)
          · exact .inl hj
          · rcases List.mem_cons.1 he with rfl | he
            · exact .inl hiU
            · exact .inr ⟨e, he, rfl⟩
      · intro e he
        rw [hU0.mem_erase_iff]
        rcases List.mem_cons.1 he with rfl | he
        · simp
        · exact fun hh => hEU e he hh.2
      · refine ⟨⟨⟨ι.l, p.blk :: ι'.x⟩, aput (some d) (.lit cv) τc, q1.trans s2, s1, ?_, ?_, by rw [aput_len', q5], ?_, ?_, ?_⟩⟩
        · rw [k3]
          exact VRels.put (s2.vs q3) (by simp only [VRel])
        · rw [put_defers]; exact q4.step s2
        · intro t ht
          have htd : t ≠ d := fun k => ht _ List.mem_cons_self k.symm
          rw [getD_put htd]
          exact q6 t fun e he => ht e (by simp [he])
        · intro e he
          rcases List.mem_cons.1 he with rfl | he
          · refine ⟨by simp, ?_, ?_, hia, ⟨oa, k1, k3, hall⟩, fun ι1 fz1 => AlV.rel r3 hpp, fun PC ι1 fz1 w2 hw2 => ?_⟩
            · exact Nat.le_trans q1.size s3
            · by_cases hd : d < τc.length
              · left; simp [aput, hd]
              · right; rw [aput_len']; simpa using hd
            · exact litO_rel hlit hw2 hoo
          · obtain ⟨t1, t2⟩ := hkeep s2 e he
            have hef := q7 e he
            refine ⟨t1, hef.new, ?_, hef.mem, hef.act, hef.val, fun PC ι1 fz1 w2 hw2 => hef.obj PC ι1 fz1 w2 (hw2.trans t2)⟩
            rw [getD_put (hde e he), aput_len']; exact hef.tmp
        · rw [List.pairwise_cons]
          refine ⟨fun e he => ⟨?_, (hde e he).symm, fun k => hEU e he (by rw [← k]; exact hiU)⟩, q8⟩
          have := q2.xlt _ (q7 e he).hid
          simp only; omega
      · rw [hRAB, lqm A B i _ k1]; exact h
    · rw [hRAB, lqm A B i _ hxe] at h
      have hnd := hnodep hia
      obtain ⟨l1, l2, hπ, hl1⟩ := sub_split (by rw [← hRAB]; exact hRs : (A ++ i :: B).Sublist π)
      obtain ⟨u, g, _, hact, hrest⟩ := front (E := E) hE.le (x := lq[i]) (B := B.filterMap (lq[·]?)) (A.filterMap (lq[·]?)) (τ := τ) (H := H) (r := (τ', H')) hdo (fun y hy => by
        obtain ⟨j, hj, hjy⟩ := List.mem_filterMap.1 hy
        refine ⟨hpl.dstdf y (List.mem_of_getElem? hjy), ?_⟩
        rcases hpl.pair l1 i l2 hπ hia j (hl1 j hj) with hb | ⟨yy, xx, e1, e2, hb⟩
        · exfalso
          have hjU := hmi j hb
          have hjR : j ∈ R := by rw [hRAB]; simp [hj]
          rcases (hR j).1 hjR with h | ⟨e, he, hej⟩
          · exact hjU h
          · exact hnd e he (by rw [hej]; exact hb)
        · rw [hjy] at e1; cases e1
          rw [hxe] at e2; cases e2
          exact hb) h
      obtain ⟨dd, gg, hact1, hact2, _⟩ := actQ_inv hact
      rw [← List.filterMap_append] at hrest
      have hact1c : actO E lq[i].1 τc { l := H.l, d := dd } = some (u, gg) := by
        rw [← hact1]
        refine actO_congr fun t ht => q6 t fun e he hed => ?_
        obtain ⟨oe, de, o1, o2, o3, o4⟩ := hpl.al e.i (q7 e he).mem
        obtain ⟨oe', o1', o2', _⟩ := (q7 e he).act
        rw [o1] at o1'; cases o1'
        rw [o3] at o2'; cases o2'
        have hei : i ≠ e.i := fun k => hEU e he (by rw [← k]; exact hiU)
        exact hnd e he ((o4 i _ hei hxe).2.1 (by rw [hed]; exact ht)).2
      refine actO_sound2 (H := { l := H.l, d := dd }) hE ho (hp i o lq[i] ho hxe) q2 q3 hact1c fun ι' cv w' r1 r2 r3 => ?_
      rw [← hact2] at r1 r2 r3
      have hnd2 : (A ++ i :: B).Nodup := by rw [← hRAB]; exact hRs.nodup hpl.nod
      refine ih (U.erase i) (A ++ B) _ Es (listed.setIfInBounds i true) _ _ _ w' hn' (hU0.erase i) hU' ?_ ?_ ?_ (by simpa using hs) hc' ((difOK_put (hpl.dstdf lq[i] (List.mem_of_getElem? hxe))).trans hdo) ?_ hrest
      · refine List.Sublist.trans ?_ hRs
        rw [hRAB]
        exact List.Sublist.append (List.Sublist.refl _) ((List.Sublist.refl _).cons _)
      · intro j
        rw [hU0.mem_erase_iff]
        have hj := hR j
        rw [hRAB] at hj
        simp only [List.mem_append, List.mem_cons] at hj ⊢
        have hn1 := List.nodup_append.1 hnd2
        constructor
        · intro hm
          have hji : j ≠ i := by
            rintro rfl
            rcases hm with hm | hm
            · exact hn1.2.2 j hm j (by simp) rfl
            · exact (List.nodup_cons.1 hn1.2.1).1 hm
          rcases hj.1 (by rcases hm with hm | hm <;> simp [hm]) with h | h
          · exact .inl ⟨hji, h⟩
          · exact .inr h
        · intro hm
          have hji : j ≠ i := by
            rintro rfl
            rcases hm with hm | ⟨e, he, hej⟩
            · exact hm.1 rfl
            · exact hEU e he (by rw [hej]; exact hiU)
          rcases hj.2 (hm.imp_left fun k => k.2) with h | h | h
          · exact .inl h
          · exact absurd h hji
          · exact .inr h
      · intro e he
        rw [hU0.mem_erase_iff]
        exact fun hh => hEU e he hh.2
      · refine ⟨⟨ι', aput lq[i].1.dst u τc, q1.trans r1, r2, VRels.put (r1.vs q3) r3, by rw [put_defers]; exact q4.step r1, by rw [aput_len', aput_len', q5], ?_, ?_, q8⟩⟩
        · intro t ht
          have h6 := q6 t ht
          cases hd : lq[i].1.dst with
          | none => exact h6
          | some c =>
            by_cases htc : t = c
            · subst htc
              by_cases hlt : t < τ.length
              · simp [aput, hlt, q5]
              · simp only [aput]
                rw [List.set_eq_of_length_le (by omega), List.set_eq_of_length_le (by omega)]; exact h6
            · rw [getD_put htc, getD_put htc]; exact h6
        · intro e he
          obtain ⟨t1, t2⟩ := hkeep r1 e he
          have hef := q7 e he
          obtain ⟨oe, de, o1, o2, o3, o4⟩ := hpl.al e.i hef.mem
          obtain ⟨oe', o1', o2', o5⟩ := hef.act
          rw [o1] at o1'; cases o1'
          rw [o3] at o2'
          simp only [Option.some.injEq] at o2'
          subst o2'
          have hei : i ≠ e.i := fun k => hEU e he (by rw [← k]; exact hiU)
          have hdst := (o4 i _ hei hxe).1
          refine ⟨t1, hef.new, ?_, hef.mem, ⟨oe, o1, o3, fun H2 => ?_⟩, hef.val, fun PC ι1 fz1 w2 hw2 => hef.obj PC ι1 fz1 w2 (hw2.trans t2)⟩
          · rw [getD_aput (fun c hc => by intro k; subst k; exact hdst hc), aput_len']; exact hef.tmp
          · rw [← o5 H2]
            refine actO_congr fun t ht => getD_aput fun c hcd k => ?_
            subst k
            have hm := ((o4 i _ hei hxe).2.2 c hcd ht).2
            have hle := hlisted e he
            have hoe : ops[e.i]? = some ops[e.i] := Array.getElem?_eq_getElem hle.2
            exact hmask e.i _ hoe (fun e2 he2 hb2 => hc e.i _ hoe hle.1 e2 he2 hb2) i hm hiU

theorem region_sound {id : Nat} {ops : Array Oper} {draw : Bool} {ac : AC} {Q : Exit → Act → World → Prop} {ι₀ : Io} {L₀ : HL} {w₀ : World} {ds : Nat} {τ τ' : List AV} {H H' : Hp} {a : Act} {w : World} (hE : EOK P E) (hp : pRegion P id ops draw = some ac)
    (hat : At P ι₀ L₀ w₀ ds τ H.l a w) (h : (∃ l, ac = .ops l ∧ execOps E l τ H = some (τ', H')) ∨ (∃ id l q df, ac = .dops id l q df ∧ difOK τ df = true ∧ execQ E [] (l.zip q) τ H = some (τ', H')))
    (hQ : ∀ a' w', At P ι₀ L₀ w₀ ds τ' H'.l a' w' → Q .normal a' w') : (Code.region id ops draw).wpIn (Fr ro) 0 P Q a w := by
  simp only [pRegion, Option.bind_eq_bind, Option.pure_def] at hp
  obtain ⟨l, hl, hp⟩ := Option.bind_eq_some_iff.1 hp
  have hlen : l.length = ops.size := by rw [mapM_length hl]; simp
  cases draw with
  | false =>
    simp only [Bool.false_eq_true, if_false, Option.some.injEq] at hp
    subst hp
    rcases h with ⟨l', e, h⟩ | ⟨_, _, _, _, e, _⟩
    · cases e
      refine wpIn_region (ops_sound hE _ l (fun k => ?_) (by simp [hlen]) hat h hQ)
      have := mapM_get hl k
      by_cases hk : k < ops.size
      · rw [List.getElem?_range hk]
        simpa using this
      · rw [List.getElem?_eq_none (by simp; omega), List.getElem?_eq_none (by omega)]; rfl
    · cases e
  | true =>
    simp only [if_true] at hp
    split at hp
    · rename_i hc
      simp only [Bool.and_eq_true] at hc
      obtain ⟨⟨c1, c2⟩, c3⟩ := hc
      simp only [Option.some.injEq] at hp
      subst hp
      rcases h with ⟨l', e, h⟩ | ⟨id', l', q, df, e, hdo, h⟩
      · cases e
      · cases e
        generalize planOf ops.toList l = pl at *
        obtain ⟨q, π, als⟩ := pl
        simp only at c1 c2 h
        have hq : q.length = l.length := by simpa using c2
        have hlq : (l.zip q).length = ops.size := by simp [hq, hlen]
        have hpl := plan_of hlq c1
        have hzip : ∀ π : List Nat, (π.filterMap (l[·]?)).zip (π.filterMap (q[·]?)) = π.filterMap ((l.zip q)[·]?) := by
          intro π
          induction π with
          | nil => rfl
          | cons k π ih =>
            by_cases hk : k < l.length
            · have hk2 : k < q.length := by omega
              have e1 : l[k]? = some l[k] := List.getElem?_eq_getElem hk
              have e2 : q[k]? = some q[k] := List.getElem?_eq_getElem hk2
              have e3 : (l.zip q)[k]? = some (l[k], q[k]) := by rw [List.getElem?_zip_eq_some]; exact ⟨e1, e2⟩
              rw [List.filterMap_cons, List.filterMap_cons, List.filterMap_cons, e1, e2, e3]
              simp only [List.zip_cons_cons, ih]
            · have e1 : l[k]? = none := List.getElem?_eq_none (by omega)
              have e2 : q[k]? = none := List.getElem?_eq_none (by omega)
              have e3 : (l.zip q)[k]? = none := List.getElem?_eq_none (by simp; omega)
              rw [List.filterMap_cons, List.filterMap_cons, List.filterMap_cons, e1, e2, e3]
              exact ih
        have hgo : ∀ md : Region.Mode, wpAnyIn (Fr ro) 0 P md ops Q ops.size (Array.replicate ops.size false) a { w with drawn := w.drawn + 1 } := by
          intro md
          obtain ⟨ι, q1, q2, q3, q4⟩ := hat.ex
          obtain ⟨d1, d2⟩ := q2.draw (w' := { w with drawn := w.drawn + 1 }) rfl rfl rfl rfl
          have hlenπ : π.length = ops.size := by
            have h1 : π.length ≤ (List.range ops.size).length := List.Nodup.length_le_of_subset hpl.nod (fun i hi => by simpa using (hpl.cov i).1 hi)
            have h2 : (List.range ops.size).length ≤ π.length := List.Nodup.length_le_of_subset List.nodup_range (fun i hi => (hpl.cov i).2 (by simpa using hi))
            simp at h1 h2; omega
          refine any_sound (md := md) hE hpl ?_ c3 hQ ops.size π π [] [] _ τ H a _ hlenπ hpl.nod ?_ (List.Sublist.refl _) (by simp) (by simp) (by simp) ?_ hdo ⟨⟨ι, τ, q1.trans d2, d1, d2.vs q3, q4.step d2, rfl, fun _ _ => rfl, by simp, by simp⟩⟩ ?_
          · intro i o x ho hx
            have := mapM_get hl i
            rw [show ops.toList[i]? = some o by simpa using ho, Option.bind_some] at this
            rw [this]
            rw [List.getElem?_zip_eq_some] at hx
            exact hx.1
          · intro i
            rw [hpl.cov]
            simp only [Array.getD_eq_getD_getElem?]
            constructor
            · intro hi; exact ⟨hi, by simp [hi]⟩
            · exact fun hi => hi.1
          · intro i o ho hi e he hb
            have hi' := (Array.getElem?_eq_some_iff.1 ho).1
            simp [Array.getD_eq_getD_getElem?, hi'] at hi
          · rw [← hzip]; exact h
        refine wpIn_region_draw fun t => ?_
        have hany : ∀ (md : Region.Mode) (t : Nat), wpOpsIn (Fr ro) 0 P ops Q (Region.linearise md ops t) a { w with drawn := w.drawn + 1 } := by
          intro md t
          refine wpAnyIn_sound ops.size t _ a _ ?_
          exact hgo md
        unfold Region.schedule
        split
        · exact hany _ _
        · exact hany _ _
    · simp only [Option.some.injEq] at hp
      subst hp
      rcases h with ⟨l', e, h⟩ | ⟨_, _, _, _, e, _⟩
      · cases e
        simp only [execOps, bad_none] at h
        simp at h
      · cases e
end
end Go.Proofs.Eng
