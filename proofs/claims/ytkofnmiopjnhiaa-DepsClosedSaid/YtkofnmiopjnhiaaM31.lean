import Derived.Test.YtkofnmiopjnhiaaM29
import Derived.Test.YtkofnmiopjnhiaaEngAG
import Derived.Test.YtkofnmiopjnhiaaEngAI
/- The engine, part AR: code run for whatever is drawn, soundly; functions of such code; laws. -/
set_option linter.unusedVariables false
set_option linter.unusedSimpArgs false
namespace Go.Proofs.Eng
open Go Go.RowKit

section
variable {P : Program} {ι : Io} {w : World}

theorem region_any {E : Env} {ro : Option Nat} {id : Nat} {ops : Array Oper} {ac : AC} {Q : Exit → Act → World → Prop} {ι₀ : Io} {L₀ : HL} {w₀ : World} {ds : Nat} {τ τ' : List AV} {H H' : Hp} {a : Act} {x : AX} (hE : EOK P E) (hp : pRegion P id ops true = some ac)
    (hat : At P ι₀ L₀ w₀ ds τ H.l a w) (h : execC E none ac τ H = some (x, τ', H')) (hQ : ∀ a' w', At P ι₀ L₀ w₀ ds τ' H'.l a' w' → Q .normal a' w') (md : Region.Mode) :
    wpAnyIn (Fr ro) 0 P md ops Q ops.size (Array.replicate ops.size false) a { w with drawn := w.drawn + 1 } := by
  simp only [pRegion, Option.bind_eq_bind, Option.pure_def] at hp
  obtain ⟨l, hl, hp⟩ := Option.bind_eq_some_iff.1 hp
  have hlen : l.length = ops.size := by rw [mapM_length hl]; simp
  simp only [if_true] at hp
  split at hp
  · rename_i hc
    simp only [Bool.and_eq_true] at hc
    obtain ⟨⟨c1, c2⟩, c3⟩ := hc
    simp only [Option.some.injEq] at hp
    subst hp
    generalize planOf ops.toList l = pl at *
    obtain ⟨q, π, als⟩ := pl
    simp only at c1 c2 h
    generalize hdf : difOf (maskTab ops.toList []) l = df at *
    simp only [execC] at h
    split at h
    · rename_i hdo
      obtain ⟨pr, h9, h2⟩ := Option.map_eq_some_iff.1 h
      simp only [Prod.mk.injEq] at h2
      obtain ⟨rfl, rfl, rfl⟩ := h2
      have hq : q.length = l.length := by simpa using c2
      have hlq : (l.zip q).length = ops.size := by simp [hq, hlen]
      have hpl := plan_of hlq c1
      have hzip : ∀ π : List Nat, (π.filterMap (l[·]?)).zip (π.filterMap (q[·]?)) = π.filterMap ((l.zip q)[·]?) := by
        intro π
        induction π with
        | nil => rfl
        | cons k π ih =>
          by_cases hk : k < l.length
          · have hk2 : k < q.length := by omega
            have e1 : l[k]? = some l[k] := List.getElem?_eq_getElem hk
            have e2 : q[k]? = some q[k] := List.getElem?_eq_getElem hk2
            have e3 : (l.zip q)[k]? = some (l[k], q[k]) := by rw [List.getElem?_zip_eq_some]; exact ⟨e1, e2⟩
            rw [List.filterMap_cons, List.filterMap_cons, List.filterMap_cons, e1, e2, e3]
            simp only [List.zip_cons_cons, ih]
          · have e1 : l[k]? = none := List.getElem?_eq_none (by omega)
            have e2 : q[k]? = none := List.getElem?_eq_none (by omega)
            have e3 : (l.zip q)[k]? = none := List.getElem?_eq_none (by simp; omega)
            rw [List.filterMap_cons, List.filterMap_cons, List.filterMap_cons, e1, e2, e3]
            exact ih
      obtain ⟨ι, q1, q2, q3, q4⟩ := hat.ex
      obtain ⟨d1, d2⟩ := q2.draw (w' := { w with drawn := w.drawn + 1 }) rfl rfl rfl rfl
      have hlenπ : π.length = ops.size := by
        have h1 : π.length ≤ (List.range ops.size).length := List.Nodup.length_le_of_subset hpl.nod (fun i hi => by simpa using (hpl.cov i).1 hi)
        have h2 : (List.range ops.size).length ≤ π.length := List.Nodup.length_le_of_subset List.nodup_range (fun i hi => (hpl.cov i).2 (by simpa using hi))
        simp at h1 h2; omega
      refine any_sound (md := md) hE hpl ?_ c3 hQ ops.size π π [] [] _ τ H a _ hlenπ hpl.nod ?_ (List.Sublist.refl _) (by simp) (by simp) (by simp) ?_ hdo ⟨⟨ι, τ, q1.trans d2, d1, d2.vs q3, q4.step d2, rfl, fun _ _ => rfl, by simp, by simp⟩⟩ ?_
      · intro i o x ho hx
        have := mapM_get hl i
        rw [show ops.toList[i]? = some o by simpa using ho, Option.bind_some] at this
        rw [this]
        rw [List.getElem?_zip_eq_some] at hx
        exact hx.1
      · intro i
        rw [hpl.cov]
        simp only [Array.getD_eq_getD_getElem?]
        constructor
        · intro hi; exact ⟨hi, by simp [hi]⟩
        · exact fun hi => hi.1
      · intro i o ho hi e he hb
        have hi' := (Array.getElem?_eq_some_iff.1 ho).1
        simp [Array.getD_eq_getD_getElem?, hi'] at hi
      · rw [← hzip]; exact h9
    · simp at h
  · simp only [Option.some.injEq] at hp
    subst hp
    simp only [execC, execOps, bad_none] at h
    simp at h

variable {Γ : Sums} {A : Tab}

/-- From a run that is known to a run for whatever is drawn. -/
theorem AtD.start {ι₀ : Io} {L₀ : HL} {w₀ : World} {ds : Nat} {τ : List AV} {L : HL} {its : Its} {a : Act} (h : AtD P ι₀ L₀ w₀ ds τ L its a w) (hds : ds ≤ w₀.heap.size) :
    ∃ ι, At P ι L w ds τ L a w ∧ ds ≤ w.heap.size ∧ ∀ {τ' : List AV} {L' : HL} {a' : Act} {w' : World}, At P ι L w ds τ' L' a' w' → AtD P ι₀ L₀ w₀ ds τ' L' its a' w' := by
  obtain ⟨ι, q1, q2, q3, q4, q5⟩ := h.ex
  refine ⟨ι, ⟨ι, Stp.refl _ _ _, q2, q3, q4⟩, Nat.le_trans hds q1.size, fun hat => ?_⟩
  obtain ⟨ι', s1, s2, s3, s4⟩ := hat.ex
  exact ⟨ι', q1.trans s1, s2, s3, s4, q5.step s1⟩

theorem base_sound (hΓ : GOK P Γ) (hT : TOK P A) {ι₀ : Io} {L₀ : HL} {w₀ : World} {ds : Nat} (hds : ds ≤ w₀.heap.size) {c : Code} {ac : AC} {Q : Exit → Act → World → Prop} {τ τ' : List AV} {H H' : Hp} {its : Its} {a : Act} {x : AX} (hp : pCode P c = some ac)
    (hat : AtD P ι₀ L₀ w₀ ds τ H.l its a w) (h : execC (lim Γ A) none ac τ H = some (x, τ', H')) (hQ : ∀ a' w', AtD P ι₀ L₀ w₀ ds τ' H'.l its a' w' → Q x.ex a' w') : c.wpIn (Fr none) 0 P Q a w := by
  obtain ⟨n, h⟩ := execC_cont ac h
  obtain ⟨ι, h1, h2, h3⟩ := hat.start hds
  exact execC_sound (rd := none) (ro := none) (env_sound hΓ hT n) rfl h2 c hp h1 h fun a' w' hat' => hQ a' w' (h3 hat')

theorem wpDC_sound {C : DCalls} (hC : DCOK P C) (hΓ : GOK P Γ) (hT : TOK P A) {hint : Nat → Option AltT} {ι₀ : Io} {L₀ : HL} {w₀ : World} {ds : Nat} (hds : ds ≤ w₀.heap.size) :
    ∀ (c : Code) {dc : DC} {Q : Exit → Act → World → Prop} {τ : List AV} {H : Hp} {its : Its} {a : Act} {w : World} {K : DPost}, pD P hint c = some dc → AtD P ι₀ L₀ w₀ ds τ H.l its a w → wpDC C (lim Γ A) dc τ H its K →
    (∀ x τ' H' its' a' w', AtD P ι₀ L₀ w₀ ds τ' H'.l its' a' w' → K x τ' H' its' → Q x.ex a' w') → c.wpIn (Fr none) 0 P Q a w
  | .region id ops draw, dc, Q, τ, H, its, a, w, K, hp, hat, h, hQ => by
    simp only [pD] at hp
    split at hp
    · rename_i hdr
      subst hdr
      split at hp
      · rename_i T hT'
        split at hp
        · rename_i hc
          simp only [Bool.and_eq_true] at hc
          obtain ⟨l, hl, rfl⟩ := Option.map_eq_some_iff.1 hp
          refine region_alts T hc.1 hc.2 fun ops' hm md => ?_
          obtain ⟨k, hk⟩ := List.getElem?_of_mem hm
          have hg := mapM_get hl k
          rw [hk, Option.bind_some] at hg
          have hmem : ∃ ac, l[k]? = some ac := by
            have h1 := mapM_length hl
            have h2 := (List.getElem?_eq_some_iff.1 hk).1
            exact ⟨l[k]'(by omega), List.getElem?_eq_getElem (by omega)⟩
          obtain ⟨ac, hac⟩ := hmem
          rw [hac] at hg
          obtain ⟨τ', H', he, hK⟩ := h.2 ac (List.mem_of_getElem? hac)
          obtain ⟨n, he⟩ := execC_cont ac he
          obtain ⟨ι, h1, h2, h3⟩ := hat.start hds
          exact region_any (ro := none) (env_sound hΓ hT n).toEOK hg h1 he (fun a' w' hat' => hQ .nrm τ' H' its a' w' (h3 hat') hK) md
        · simp at hp
      · obtain ⟨ac, hac, rfl⟩ := Option.map_eq_some_iff.1 hp
        obtain ⟨x, τ', H', he, hK⟩ := h
        exact base_sound hΓ hT hds (c := .region id ops true) (by simp only [pCode]; exact hac) hat he fun a' w' hat' => hQ _ _ _ _ _ _ hat' hK
    · rename_i hdr
      have hdr : draw = false := by simpa using hdr
      subst hdr
      split at hp
      · obtain ⟨l, hl, rfl⟩ := Option.map_eq_some_iff.1 hp
        refine wpIn_region (dops_sound (hint := hint) hC (fun n => (env_sound hΓ hT n).toEOK) _ l (K := K .nrm) (fun k => ?_) (by rw [mapM_length hl]; simp) hat h (fun τ' H' its' a' w' hat' hk => hQ .nrm _ _ _ _ _ hat' hk))
        have := mapM_get hl k
        by_cases hk : k < ops.size
        · rw [List.getElem?_range hk]
          simpa using this
        · have hlen := mapM_length hl
          simp only [Array.length_toList] at hlen
          rw [List.getElem?_eq_none (by simp; omega), List.getElem?_eq_none (by omega)]; rfl
      · obtain ⟨ac, hac, rfl⟩ := Option.map_eq_some_iff.1 hp
        obtain ⟨x, τ', H', he, hK⟩ := h
        exact base_sound hΓ hT hds (c := .region id ops false) (by simp only [pCode]; exact hac) hat he fun a' w' hat' => hQ _ _ _ _ _ _ hat' hK
  | .seq c d, dc, Q, τ, H, its, a, w, K, hp, hat, h, hQ => by
    simp only [pD] at hp
    split at hp
    · simp only [Option.bind_eq_bind, Option.pure_def] at hp
      obtain ⟨ac1, h1, hp⟩ := Option.bind_eq_some_iff.1 hp
      obtain ⟨ac2, h2, hp⟩ := Option.bind_eq_some_iff.1 hp
      simp only [Option.some.injEq] at hp; subst hp
      refine wpIn_seq ?_
      refine wpDC_sound hC hΓ hT hds c h1 hat h fun x τ' H' its' a' w' hat' hk => ?_
      cases x with
      | nrm => exact wpDC_sound hC hΓ hT hds d h2 hat' hk hQ
      | ret => exact hQ _ _ _ _ _ _ hat' hk
      | exit i => exact hQ _ _ _ _ _ _ hat' hk
    · obtain ⟨ac, hac, rfl⟩ := Option.map_eq_some_iff.1 hp
      obtain ⟨x, τ', H', he, hK⟩ := h
      exact base_sound hΓ hT hds hac hat he fun a' w' hat' => hQ _ _ _ _ _ _ hat' hK
  | .cond g c d, dc, Q, τ, H, its, a, w, K, hp, hat, h, hQ => by
    simp only [pD] at hp
    split at hp
    · simp only [Option.bind_eq_bind, Option.pure_def] at hp
      obtain ⟨ac1, h1, hp⟩ := Option.bind_eq_some_iff.1 hp
      obtain ⟨ac2, h2, hp⟩ := Option.bind_eq_some_iff.1 hp
      simp only [Option.some.injEq] at hp; subst hp
      obtain ⟨t, ht, k1, k2⟩ := h
      obtain ⟨ι, q1, q2, q3, q4, q5⟩ := hat.ex
      cases hy : pOpd g with
      | none => rw [hy] at ht; simp [aeval] at ht
      | some y =>
      rw [hy] at ht
      simp only [Option.getD_some] at ht
      have hv := aeval_rel q3 hy
      rw [ht] at hv
      simp only [VRel] at hv
      cases t with
      | true => exact wpIn_cond_true hv (wpDC_sound hC hΓ hT hds c h1 hat (k1 rfl) hQ)
      | false => exact wpIn_cond_false hv (wpDC_sound hC hΓ hT hds d h2 hat (k2 rfl) hQ)
    · obtain ⟨ac, hac, rfl⟩ := Option.map_eq_some_iff.1 hp
      obtain ⟨x, τ', H', he, hK⟩ := h
      exact base_sound hΓ hT hds hac hat he fun a' w' hat' => hQ _ _ _ _ _ _ hat' hK
  | .block id c, dc, Q, τ, H, its, a, w, K, hp, hat, h, hQ => by
    simp only [pD] at hp
    split at hp
    · obtain ⟨b, hb, rfl⟩ := Option.map_eq_some_iff.1 hp
      refine wpIn_block ?_
      refine wpDC_sound hC hΓ hT hds c hb hat h fun x τ' H' its' a' w' hat' hk => ?_
      cases x with
      | nrm => exact hQ _ _ _ _ _ _ hat' hk
      | ret => exact hQ _ _ _ _ _ _ hat' hk
      | exit i =>
        simp only [] at hk
        by_cases hi : i = id
        · rw [if_pos hi] at hk
          simp only [AX.ex, Exit.inBlock, hi, if_true]
          exact hQ _ _ _ _ _ _ hat' hk
        · rw [if_neg hi] at hk
          simp only [AX.ex, Exit.inBlock, hi, if_false]
          exact hQ _ _ _ _ _ _ hat' hk
    · obtain ⟨ac, hac, rfl⟩ := Option.map_eq_some_iff.1 hp
      obtain ⟨x, τ', H', he, hK⟩ := h
      exact base_sound hΓ hT hds hac hat he fun a' w' hat' => hQ _ _ _ _ _ _ hat' hK
  | .loop c, dc, Q, τ, H, its, a, w, K, hp, hat, h, hQ => by
    simp only [pD] at hp
    split at hp
    · obtain ⟨b, hb, rfl⟩ := Option.map_eq_some_iff.1 hp
      obtain ⟨k, h⟩ := h
      refine wpIn_loop_rounds k ?_
      have key : ∀ k {τ : List AV} {H : Hp} {its : Its} {a : Act} {w : World}, AtD P ι₀ L₀ w₀ ds τ H.l its a w → iterD (fun τ H its K => wpDC C (lim Γ A) b τ H its K) K k τ H its → Code.roundsIn (Fr none) 0 P c Q k a w := by
        intro k
        induction k with
        | zero => intro τ H its a w _ h; exact h.elim
        | succ k ih =>
          intro τ H its a w hat h
          rw [roundsIn_succ]
          refine wpDC_sound hC hΓ hT hds c hb hat h fun x τ' H' its' a' w' hat' hk => ?_
          cases x with
          | nrm => exact ih hat' hk
          | ret => exact hQ _ _ _ _ _ _ hat' hk
          | exit i => exact hQ _ _ _ _ _ _ hat' hk
      exact key k hat h
    · obtain ⟨ac, hac, rfl⟩ := Option.map_eq_some_iff.1 hp
      obtain ⟨x, τ', H', he, hK⟩ := h
      exact base_sound hΓ hT hds hac hat he fun a' w' hat' => hQ _ _ _ _ _ _ hat' hK
  | .skip, dc, Q, τ, H, its, a, w, K, hp, hat, h, hQ => by
    simp only [pD] at hp
    obtain ⟨ac, hac, rfl⟩ := Option.map_eq_some_iff.1 hp
    obtain ⟨x, τ', H', he, hK⟩ := h
    exact base_sound hΓ hT hds hac hat he fun a' w' hat' => hQ _ _ _ _ _ _ hat' hK
  | .rangeFunc g ps ca cb, dc, Q, τ, H, its, a, w, K, hp, hat, h, hQ => by
    simp only [pD] at hp
    obtain ⟨ac, hac, rfl⟩ := Option.map_eq_some_iff.1 hp
    obtain ⟨x, τ', H', he, hK⟩ := h
    exact base_sound hΓ hT hds hac hat he fun a' w' hat' => hQ _ _ _ _ _ _ hat' hK
  | .exit id, dc, Q, τ, H, its, a, w, K, hp, hat, h, hQ => by
    simp only [pD] at hp
    obtain ⟨ac, hac, rfl⟩ := Option.map_eq_some_iff.1 hp
    obtain ⟨x, τ', H', he, hK⟩ := h
    exact base_sound hΓ hT hds hac hat he fun a' w' hat' => hQ _ _ _ _ _ _ hat' hK
  | .scope c, dc, Q, τ, H, its, a, w, K, hp, hat, h, hQ => by
    simp only [pD] at hp
    obtain ⟨ac, hac, rfl⟩ := Option.map_eq_some_iff.1 hp
    obtain ⟨x, τ', H', he, hK⟩ := h
    exact base_sound hΓ hT hds hac hat he fun a' w' hat' => hQ _ _ _ _ _ _ hat' hK
  | .label l, dc, Q, τ, H, its, a, w, K, hp, hat, h, hQ => by
    simp only [pD] at hp
    obtain ⟨ac, hac, rfl⟩ := Option.map_eq_some_iff.1 hp
    obtain ⟨x, τ', H', he, hK⟩ := h
    exact base_sound hΓ hT hds hac hat he fun a' w' hat' => hQ _ _ _ _ _ _ hat' hK
  | .goto l, dc, Q, τ, H, its, a, w, K, hp, hat, h, hQ => by
    simp only [pD] at hp
    obtain ⟨ac, hac, rfl⟩ := Option.map_eq_some_iff.1 hp
    obtain ⟨x, τ', H', he, hK⟩ := h
    exact base_sound hΓ hT hds hac hat he fun a' w' hat' => hQ _ _ _ _ _ _ hat' hK
  | .ret, dc, Q, τ, H, its, a, w, K, hp, hat, h, hQ => by
    simp only [pD] at hp
    obtain ⟨ac, hac, rfl⟩ := Option.map_eq_some_iff.1 hp
    obtain ⟨x, τ', H', he, hK⟩ := h
    exact base_sound hΓ hT hds hac hat he fun a' w' hat' => hQ _ _ _ _ _ _ hat' hK
  | .refuse s, dc, Q, τ, H, its, a, w, K, hp, hat, h, hQ => by
    simp only [pD] at hp
    obtain ⟨ac, hac, rfl⟩ := Option.map_eq_some_iff.1 hp
    obtain ⟨x, τ', H', he, hK⟩ := h
    exact base_sound hΓ hT hds hac hat he fun a' w' hat' => hQ _ _ _ _ _ _ hat' hK
end
end Go.Proofs.Eng
/- The engine, part AS: functions run for whatever is drawn; their summaries; laws. -/
set_option linter.unusedVariables false
set_option linter.unusedSimpArgs false
namespace Go.Proofs.Eng
open Go Go.RowKit

section
variable {E : Env} {C : DCalls}

theorem wpDO_mono : ∀ {l : List DOp} {τ : List AV} {H : Hp} {its : Its} {K K' : List AV → Hp → Its → Prop}, (∀ τ H its, K τ H its → K' τ H its) → wpDO C E l τ H its K → wpDO C E l τ H its K'
  | [], τ, H, its, K, K', hk, h => hk _ _ _ h
  | .op o :: r, τ, H, its, K, K', hk, h => by
    obtain ⟨v, g, e, h⟩ := h
    exact ⟨v, g, e, wpDO_mono hk h⟩
  | .range d m :: r, τ, H, its, K, K', hk, h => by
    obtain ⟨id, es, clk, e1, e2, h⟩ := h
    exact ⟨id, es, clk, e1, e2, fun s => wpDO_mono hk (h s)⟩
  | .next d it :: r, τ, H, its, K, K', hk, h => by
    obtain ⟨id, I, es, e1, e2, e3, h1, h2⟩ := h
    exact ⟨id, I, es, e1, e2, e3, fun e => wpDO_mono hk (h1 e), fun e he => wpDO_mono hk (h2 e he)⟩
  | .entry d it :: r, τ, H, its, K, K', hk, h => by
    obtain ⟨id, I, es, e, e1, e2, e3, e4, e5, e6, h⟩ := h
    exact ⟨id, I, es, e, e1, e2, e3, e4, e5, e6, wpDO_mono hk h⟩
  | .call d f args :: r, τ, H, its, K, K', hk, h => by
    obtain ⟨R, hR, h⟩ := h
    exact ⟨R, hR, fun v g hv => wpDO_mono hk (h v g hv)⟩

theorem wpDC_mono : ∀ (c : DC) {τ : List AV} {H : Hp} {its : Its} {K K' : DPost}, (∀ x τ H its, K x τ H its → K' x τ H its) → wpDC C E c τ H its K → wpDC C E c τ H its K'
  | .base c, τ, H, its, K, K', hk, h => by obtain ⟨x, τ', H', e, h⟩ := h; exact ⟨x, τ', H', e, hk _ _ _ _ h⟩
  | .regD l, τ, H, its, K, K', hk, h => wpDO_mono (fun τ H its => hk .nrm τ H its) h
  | .alts l, τ, H, its, K, K', hk, h => ⟨h.1, fun c hc => by obtain ⟨τ', H', e, h⟩ := h.2 c hc; exact ⟨τ', H', e, hk _ _ _ _ h⟩⟩
  | .seq a b, τ, H, its, K, K', hk, h => by
    refine wpDC_mono a (fun x τ H its h => ?_) h
    cases x with
    | nrm => exact wpDC_mono b hk h
    | ret => exact hk _ _ _ _ h
    | exit i => exact hk _ _ _ _ h
  | .cond c a b, τ, H, its, K, K', hk, h => by
    obtain ⟨t, e, h1, h2⟩ := h
    exact ⟨t, e, fun k => wpDC_mono a hk (h1 k), fun k => wpDC_mono b hk (h2 k)⟩
  | .block id b, τ, H, its, K, K', hk, h => by
    refine wpDC_mono b (fun x τ H its h => ?_) h
    cases x with
    | nrm => exact hk _ _ _ _ h
    | ret => exact hk _ _ _ _ h
    | exit i =>
      simp only [] at h ⊢
      by_cases hi : i = id
      · rw [if_pos hi] at h ⊢; exact hk _ _ _ _ h
      · rw [if_neg hi] at h ⊢; exact hk _ _ _ _ h
  | .loop b, τ, H, its, K, K', hk, h => by
    obtain ⟨k, h⟩ := h
    refine ⟨k, ?_⟩
    have key : ∀ (k : Nat) (τ : List AV) (H : Hp) (its : Its), iterD (fun τ H its K => wpDC C E b τ H its K) K k τ H its → iterD (fun τ H its K => wpDC C E b τ H its K) K' k τ H its := by
      intro k
      induction k with
      | zero => intro τ H its h; exact h
      | succ k ih =>
        intro τ H its h
        simp only [iterD] at h ⊢
        refine wpDC_mono b (fun x τ H its h => ?_) h
        cases x with
        | nrm => exact ih _ _ _ h
        | ret => exact hk _ _ _ _ h
        | exit i => exact hk _ _ _ _ h
    exact key k _ _ _ h

theorem wpDO_and : ∀ {l : List DOp} {τ : List AV} {H : Hp} {its : Its} {K K' : List AV → Hp → Its → Prop}, wpDO C E l τ H its K → wpDO C E l τ H its K' → wpDO C E l τ H its fun τ H its => K τ H its ∧ K' τ H its
  | [], τ, H, its, K, K', h, h' => ⟨h, h'⟩
  | .op o :: r, τ, H, its, K, K', h, h' => by
    obtain ⟨v, g, e, h⟩ := h
    obtain ⟨v', g', e', h'⟩ := h'
    rw [e] at e'; cases e'
    exact ⟨v, g, e, wpDO_and h h'⟩
  | .range d m :: r, τ, H, its, K, K', h, h' => by
    obtain ⟨id, es, clk, e1, e2, h⟩ := h
    obtain ⟨id', es', clk', e1', e2', h'⟩ := h'
    rw [e1] at e1'; cases e1'
    rw [e2] at e2'; cases e2'
    exact ⟨id, es, clk, e1, e2, fun s => wpDO_and (h s) (h' s)⟩
  | .next d it :: r, τ, H, its, K, K', h, h' => by
    obtain ⟨id, I, es, e1, e2, e3, h1, h2⟩ := h
    obtain ⟨id', I', es', e1', e2', e3', h1', h2'⟩ := h'
    rw [e1] at e1'; cases e1'
    rw [e2] at e2'; cases e2'
    rw [e3] at e3'; cases e3'
    exact ⟨id, I, es, e1, e2, e3, fun e => wpDO_and (h1 e) (h1' e), fun e he => wpDO_and (h2 e he) (h2' e he)⟩
  | .entry d it :: r, τ, H, its, K, K', h, h' => by
    obtain ⟨id, I, es, e, e1, e2, e3, e4, e5, e6, h⟩ := h
    obtain ⟨id', I', es', e', e1', e2', e3', e4', e5', e6', h'⟩ := h'
    rw [e1] at e1'; cases e1'
    rw [e2] at e2'; cases e2'
    rw [e3] at e3'; cases e3'
    rw [e4] at e4'; cases e4'
    exact ⟨id, I, es, e, e1, e2, e3, e4, e5, e6, wpDO_and h h'⟩
  | .call d f args :: r, τ, H, its, K, K', h, h' => by
    obtain ⟨R, hR, h⟩ := h
    obtain ⟨R', hR', h'⟩ := h'
    exact ⟨_, C.and hR hR', fun v g hv => wpDO_and (h v g hv.1) (h' v g hv.2)⟩

theorem iterD_mono {step : List AV → Hp → Its → DPost → Prop} (hs : ∀ (τ : List AV) (H : Hp) (its : Its) (K K' : DPost), (∀ x τ H its, K x τ H its → K' x τ H its) → step τ H its K → step τ H its K') {K : DPost} :
    ∀ (k j : Nat), k ≤ j → ∀ (τ : List AV) (H : Hp) (its : Its), iterD step K k τ H its → iterD step K j τ H its
  | 0, j, _, τ, H, its, h => h.elim
  | k + 1, 0, hkj, τ, H, its, h => by omega
  | k + 1, j + 1, hkj, τ, H, its, h => by
    simp only [iterD] at h ⊢
    refine hs _ _ _ _ _ (fun x τ H its h => ?_) h
    cases x with
    | nrm => exact iterD_mono hs k j (by omega) _ _ _ h
    | ret => exact h
    | exit i => exact h

theorem wpDC_and : ∀ (c : DC) {τ : List AV} {H : Hp} {its : Its} {K K' : DPost}, wpDC C E c τ H its K → wpDC C E c τ H its K' → wpDC C E c τ H its fun x τ H its => K x τ H its ∧ K' x τ H its
  | .base c, τ, H, its, K, K', h, h' => by
    obtain ⟨x, τ', H', e, h⟩ := h
    obtain ⟨x', τ'', H'', e', h'⟩ := h'
    rw [e] at e'; cases e'
    exact ⟨x, τ', H', e, h, h'⟩
  | .regD l, τ, H, its, K, K', h, h' => wpDO_and h h'
  | .alts l, τ, H, its, K, K', h, h' => ⟨h.1, fun c hc => by
    obtain ⟨τ', H', e, h⟩ := h.2 c hc
    obtain ⟨τ'', H'', e', h'⟩ := h'.2 c hc
    rw [e] at e'; cases e'
    exact ⟨τ', H', e, h, h'⟩⟩
  | .seq a b, τ, H, its, K, K', h, h' => by
    refine wpDC_mono a (fun x τ H its h => ?_) (wpDC_and a h h')
    cases x with
    | nrm => exact wpDC_and b h.1 h.2
    | ret => exact h
    | exit i => exact h
  | .cond c a b, τ, H, its, K, K', h, h' => by
    obtain ⟨t, e, h1, h2⟩ := h
    obtain ⟨t', e', h1', h2'⟩ := h'
    rw [e] at e'; cases e'
    exact ⟨t, e, fun k => wpDC_and a (h1 k) (h1' k), fun k => wpDC_and b (h2 k) (h2' k)⟩
  | .block id b, τ, H, its, K, K', h, h' => by
    refine wpDC_mono b (fun x τ H its h => ?_) (wpDC_and b h h')
    cases x with
    | nrm => exact h
    | ret => exact h
    | exit i =>
      simp only [] at h ⊢
      by_cases hi : i = id
      · rw [if_pos hi] at h ⊢; rw [if_pos hi] at h; exact h
      · rw [if_neg hi] at h ⊢; rw [if_neg hi] at h; exact h
  | .loop b, τ, H, its, K, K', h, h' => by
    obtain ⟨k, h⟩ := h
    obtain ⟨k', h'⟩ := h'
    have g := iterD_mono (step := fun τ H its K => wpDC C E b τ H its K) (fun _ _ _ _ _ hk h => wpDC_mono b hk h) _ _ (Nat.le_max_left k k') _ _ _ h
    have g' := iterD_mono (step := fun τ H its K => wpDC C E b τ H its K) (fun _ _ _ _ _ hk h => wpDC_mono b hk h) _ _ (Nat.le_max_right k k') _ _ _ h'
    refine ⟨max k k', ?_⟩
    have key : ∀ (m : Nat) (τ : List AV) (H : Hp) (its : Its), iterD (fun τ H its K => wpDC C E b τ H its K) K m τ H its → iterD (fun τ H its K => wpDC C E b τ H its K) K' m τ H its →
        iterD (fun τ H its K => wpDC C E b τ H its K) (fun x τ H its => K x τ H its ∧ K' x τ H its) m τ H its := by
      intro m
      induction m with
      | zero => intro τ H its g _; exact g
      | succ m ih =>
        intro τ H its g g'
        simp only [iterD] at g g' ⊢
        refine wpDC_mono b (fun x τ H its h => ?_) (wpDC_and b g g')
        cases x with
        | nrm => exact ih _ _ _ h.1 h.2
        | ret => exact h
        | exit i => exact h
    exact key _ _ _ _ g g'

end

/-! ### The heap grows -/
theorem HLe.dead (H : Hp) : HLe H (hdead H) := ⟨by simp [hdead], fun m h => ⟨m, h, Nat.le_refl _⟩, fun i hi _ => by simp [hdead, List.getElem?_append_left hi]⟩

section
variable {P : Program} {Γ : Sums} {A : Tab} {C : DCalls}

theorem wpDO_le (hΓ : GOK P Γ) : ∀ {l : List DOp} {τ : List AV} {H : Hp} {its : Its} {K : List AV → Hp → Its → Prop}, wpDO C (lim Γ A) l τ H its K → wpDO C (lim Γ A) l τ H its fun τ' H' its' => K τ' H' its' ∧ HLe H H'
  | [], τ, H, its, K, h => ⟨h, HLe.refl _⟩
  | .op o :: r, τ, H, its, K, h => by
    obtain ⟨v, g, e, h⟩ := h
    obtain ⟨n, e'⟩ := actO_cont e
    have := actO_le (env_le hΓ.le n).toCLe e'
    exact ⟨v, g, e, wpDO_mono (fun _ _ _ h => ⟨h.1, HLe.trans this h.2⟩) (wpDO_le hΓ h)⟩
  | .range d m :: r, τ, H, its, K, h => by
    obtain ⟨id, es, clk, e1, e2, h⟩ := h
    exact ⟨id, es, clk, e1, e2, fun s => wpDO_mono (fun _ _ _ h => ⟨h.1, (HLe.dead H).trans h.2⟩) (wpDO_le hΓ (h s))⟩
  | .next d it :: r, τ, H, its, K, h => by
    obtain ⟨id, I, es, e1, e2, e3, h1, h2⟩ := h
    exact ⟨id, I, es, e1, e2, e3, fun e => wpDO_le hΓ (h1 e), fun e he => wpDO_le hΓ (h2 e he)⟩
  | .entry d it :: r, τ, H, its, K, h => by
    obtain ⟨id, I, es, e, e1, e2, e3, e4, e5, e6, h⟩ := h
    exact ⟨id, I, es, e, e1, e2, e3, e4, e5, e6, wpDO_le hΓ h⟩
  | .call d f args :: r, τ, H, its, K, h => by
    obtain ⟨R, hR, h⟩ := h
    refine ⟨_, C.le hR, fun v g hv => wpDO_mono (fun _ _ _ k => ⟨k.1, HLe.trans ?_ k.2⟩) (wpDO_le hΓ (h v g hv.1))⟩
    exact hv.2

theorem limC_le (hΓ : GOK P Γ) {c : AC} {τ τ' : List AV} {H H' : Hp} {x : AX} (e : execC (lim Γ A) none c τ H = some (x, τ', H')) : HLe H H' := by
  obtain ⟨n, e⟩ := execC_cont c e
  exact execC_le (env_le hΓ.le n) c e

theorem wpDC_le (hΓ : GOK P Γ) : ∀ (c : DC) {τ : List AV} {H : Hp} {its : Its} {K : DPost}, wpDC C (lim Γ A) c τ H its K → wpDC C (lim Γ A) c τ H its fun x τ' H' its' => K x τ' H' its' ∧ HLe H H'
  | .base c, τ, H, its, K, h => by obtain ⟨x, τ', H', e, h⟩ := h; exact ⟨x, τ', H', e, h, limC_le hΓ e⟩
  | .regD l, τ, H, its, K, h => wpDO_le hΓ h
  | .alts l, τ, H, its, K, h => ⟨h.1, fun c hc => by obtain ⟨τ', H', e, h⟩ := h.2 c hc; exact ⟨τ', H', e, h, limC_le hΓ e⟩⟩
  | .seq a b, τ, H, its, K, h => by
    refine wpDC_mono a (fun x τ' H' its h => ?_) (wpDC_le hΓ a h)
    cases x with
    | nrm => exact wpDC_mono b (fun _ _ _ _ k => ⟨k.1, h.2.trans k.2⟩) (wpDC_le hΓ b h.1)
    | ret => exact h
    | exit i => exact h
  | .cond c a b, τ, H, its, K, h => by
    obtain ⟨t, e, h1, h2⟩ := h
    exact ⟨t, e, fun k => wpDC_le hΓ a (h1 k), fun k => wpDC_le hΓ b (h2 k)⟩
  | .block id b, τ, H, its, K, h => by
    refine wpDC_mono b (fun x τ' H' its h => ?_) (wpDC_le hΓ b h)
    cases x with
    | nrm => exact h
    | ret => exact h
    | exit i =>
      simp only [] at h ⊢
      by_cases hi : i = id
      · rw [if_pos hi] at h ⊢; exact h
      · rw [if_neg hi] at h ⊢; exact h
  | .loop b, τ, H, its, K, h => by
    obtain ⟨k, h⟩ := h
    refine ⟨k, ?_⟩
    have key : ∀ (k : Nat) {τ : List AV} {H0 H : Hp} {its : Its}, HLe H0 H → iterD (fun τ H its K => wpDC C (lim Γ A) b τ H its K) K k τ H its → iterD (fun τ H its K => wpDC C (lim Γ A) b τ H its K) (fun x τ' H' its' => K x τ' H' its' ∧ HLe H0 H') k τ H its := by
      intro k
      induction k with
      | zero => intro τ H0 H its _ h; exact h
      | succ k ih =>
        intro τ H0 H its hl h
        simp only [iterD] at h ⊢
        refine wpDC_mono b (fun x τ' H' its h => ?_) (wpDC_le hΓ b h)
        cases x with
        | nrm => exact ih (hl.trans h.2) h.1
        | ret => exact ⟨h.1, hl.trans h.2⟩
        | exit i => exact ⟨h.1, hl.trans h.2⟩
    exact key k (HLe.refl _) h

/-! ### Functions -/
structure DFunc where
  ntmps : Nat
  results : List (Sum Nat (Nat × Option Nat))
  body : DC
  frz : Bool := false

def pDFunc (P : Program) (hint : Nat → Option AltT) (fn : Func) : Option DFunc := do
  let body ← fn.body
  let dc ← pD P hint body
  let rs ← fn.results.toList.mapM (pRes P)
  if fn.name == "runtime.NumGoroutine" then none else some { ntmps := fn.ntmps, results := rs, body := dc }

/-- A function, run for whatever is drawn: what it comes to. -/
def DRunP (C : DCalls) (Γ : Sums) (A : Tab) (fn : DFunc) (args : List AV) (H : Hp) (R : AV × Option Hp → Prop) : Prop :=
  wpDC C (lim Γ A) fn.body (args ++ List.replicate (fn.ntmps - args.length) avU) { l := H.l, d := none } [] fun x τ' H' _ => (x = .nrm ∨ x = .ret) ∧ ∃ v, resA fn.results τ' H' = some v ∧ R (settleZ fn.frz H v H')
/-- The functions, as they are resolved. -/
def TOKD (P : Program) (D : FuncId → Option DFunc) : Prop := ∀ (f : FuncId) (df : DFunc), D f = some df → ∃ hint fn, P.funcs[f]? = some fn ∧ pDFunc P hint fn = some { df with frz := false }

theorem entDP_sound (hC : DCOK P C) (hΓ : GOK P Γ) (hT : TOK P A) {hint : Nat → Option AltT} {fn : Func} {f : FuncId} {df : DFunc} (hf : P.funcs[f]? = some fn) (hp : pDFunc P hint fn = some { df with frz := false }) {args : List AV} {H : Hp} {R : AV × Option Hp → Prop} {ι : Io} {w : World} {cargs : Array Value}
    (hr : RelH (PCof P) ι H.l w) (ha : VRels ι (fzOf ι H.l w) args cargs.toList) (e : DRunP C Γ A df args H R) : Enters P (fun cv w' => ∃ v h, R (v, h) ∧ Left P ι H.l w v (h.getD H).l cv w') f cargs w := by
  have hsp : ∃ c, fn.body = some c ∧ pD P hint c = some df.body ∧ fn.ntmps = df.ntmps ∧ fn.results.toList.mapM (pRes P) = some df.results ∧ (fn.name == "runtime.NumGoroutine") = false := by
    simp only [pDFunc, Option.bind_eq_bind, Option.pure_def] at hp
    obtain ⟨c, hc, hp⟩ := Option.bind_eq_some_iff.1 hp
    obtain ⟨ac, hac, hp⟩ := Option.bind_eq_some_iff.1 hp
    obtain ⟨rs, hrs, hp⟩ := Option.bind_eq_some_iff.1 hp
    split at hp
    · simp at hp
    · rename_i hn
      simp only [Option.some.injEq, DFunc.mk.injEq] at hp
      obtain ⟨p1, p2, p3, _⟩ := hp
      exact ⟨c, hc, by rw [hac, p3], p1, by rw [hrs, p2], by simpa using hn⟩
  obtain ⟨c, hc, hac, hnt, hrs, hname⟩ := hsp
  refine ⟨?_, ?_⟩
  · simp only [callFunc, Sem.run_bind, run_program, Result.andThen_ok, hf, hname, Bool.false_eq_true, if_false, hc, Option.isNone_some]
    rfl
  · refine callsIn_of_wp_marks hf hc trivial ?_
    have hlen : args.length = cargs.size := by rw [ha.length]; simp
    have hat : AtD P ι H.l w w.heap.size (args ++ List.replicate (df.ntmps - args.length) avU) H.l [] { tmps := cargs ++ Array.replicate (fn.ntmps - cargs.size) undef, defers := [] } w := by
      refine ⟨ι, Stp.refl _ _ _, hr, ?_, ⟨[], rfl, by simp, by simp⟩, ⟨fun id I h => by simp at h, fun id id' I I' p p' h => by simp at h⟩⟩
      simp only [Array.toList_append, Array.toList_replicate]
      rw [hnt, hlen]
      exact ha.append (VRels.replicate (by simp only [VRel, undef]) _)
    refine wpDC_sound hC hΓ hT (Nat.le_refl _) c (H := { l := H.l, d := none }) hac hat (wpDC_le hΓ _ e) fun x τ' H' its' a' w' hat' hk => ?_
    obtain ⟨⟨hxx, u, hu, hR⟩, hle⟩ := hk
    have hfin : LeavesInM Fence.wide 0 P fn a'.tmps (fun
        | .returned v', w'' => ∃ v h, R (v, h) ∧ Left P ι H.l w v (h.getD H).l v' w''
        | _, _ => False) a'.defers .returning w' := by
      obtain ⟨ι', q1, q2, q3, ⟨Ds, e1, e2, e3⟩, _⟩ := hat'.ex
      rw [e1]
      refine leaves_sound (τ := τ') (H' := H') (fun w'' s hr' ht' => ?_) Ds e2 e3 q1 q2 q3
      obtain ⟨cv, r1, r2⟩ := results_sound hr' ht' hrs hu
      exact ⟨cv, r1, _, _, hR, settleZ_sound hr hle s hr' r2 rfl⟩
    rcases hxx with rfl | rfl
    · exact hfin
    · exact hfin

/-- Functions that may come to this or that, called by others. -/
def dCalls (hΓ : GOK P Γ) (D : FuncId → Option DFunc) : DCalls where
  run f args H R := ∃ df, D f = some df ∧ DRunP noC Γ A df args H R
  and := fun ⟨df, e, h⟩ ⟨df', e', h'⟩ => by
    rw [e] at e'; cases e'
    refine ⟨df, e, wpDC_mono _ (fun x τ' H' its k => ?_) (wpDC_and _ h h')⟩
    obtain ⟨⟨k0, v, k1, k2⟩, _, v', k3, k4⟩ := k
    rw [k1] at k3; cases k3
    exact ⟨k0, v, k1, k2, k4⟩
  le := fun {f args H R} ⟨df, e, h⟩ => by
    refine ⟨df, e, wpDC_mono _ (fun x τ' H' its k => ?_) (wpDC_le hΓ _ h)⟩
    obtain ⟨⟨k0, v, k1, k2⟩, hl⟩ := k
    refine ⟨k0, v, k1, k2, ?_⟩
    rcases es : settleZ df.frz H v H' with ⟨u, g⟩
    exact settleZ_le hl es
theorem dCalls_ok (hΓ : GOK P Γ) (hT : TOK P A) {D : FuncId → Option DFunc} (hD : TOKD P D) : DCOK P (dCalls (A := A) hΓ D) := fun {f args H R ι w cargs} hR hr ha => by
  obtain ⟨df, e, h⟩ := hR
  obtain ⟨hint, fn, h1, h2⟩ := hD _ _ e
  exact (entDP_sound noC_ok hΓ hT h1 h2 hr ha h).upon
end
end Go.Proofs.Eng
/- The engine, part AT: the weakest precondition of code that is run for whatever is drawn; laws of such functions. -/
set_option linter.unusedVariables false
set_option linter.unusedSimpArgs false
namespace Go.Proofs.Eng
open Go Go.RowKit Go.ChangeShapes Go.WideShapes Go.ChangeAt

abbrev PostR := AX → Rho → Hp → Its → Prop

def wpRO (C : DCalls) (E : Env) : List DOp → Rho → Hp → Its → (Rho → Hp → Its → Prop) → Prop
  | [], ρ, H, its, K => K ρ H its
  | .op o :: r, ρ, H, its, K => wpO E [(o, 0)] ρ H fun ρ' H' => wpRO C E r ρ' H' its K
  | .range d m :: r, ρ, H, its, K => ∃ id es clk, evR ρ m = .map id ∧ hget H id = some (.map es clk) ∧ (StOK es → wpRO C E r (updO ρ (some d) (.ptr H.l.length 0)) (hdead H) ((H.l.length, ⟨id, clk, [], none⟩) :: its) K)
  | .next d it :: r, ρ, H, its, K => ∃ id I es, evR ρ it = .ptr id 0 ∧ its.lookup id = some I ∧ hget H I.m = some (.map es I.clk) ∧
      (leftL es I.seen = [] → wpRO C E r (updO ρ (some d) (.tup [avBool false])) H its K) ∧
      ∀ e ∈ leftL es I.seen, wpRO C E r (updO ρ (some d) (.tup [avBool true, .lit e.1, e.2.1])) H ((id, { I with seen := I.seen ++ [e.2.2], last := some e }) :: its) K
  | .entry d it :: r, ρ, H, its, K => ∃ id I es e, evR ρ it = .ptr id 0 ∧ its.lookup id = some I ∧ hget H I.m = some (.map es I.clk) ∧ I.last = some e ∧ e ∈ es ∧ I.seen.getLast? = some e.2.2 ∧
      wpRO C E r (updO ρ (some d) (.tup [.lit e.1, e.2.1])) H its K
  | .call d f args :: r, ρ, H, its, K => ∃ R, C.run f (args.map (evR ρ)) H R ∧ ∀ v h, R (v, h) → wpRO C E r (updO ρ d v) (h.getD H) its K

def iterR (step : Rho → Hp → Its → PostR → Prop) (K : PostR) : Nat → Rho → Hp → Its → Prop
  | 0, _, _, _ => False
  | k + 1, ρ, H, its => step ρ H its fun x ρ' H' its' => match x with | .nrm => iterR step K k ρ' H' its' | x => K x ρ' H' its'

def postD (K : PostR) (its : Its) : Post := fun x ρ H => K x ρ H its
@[simp ↓] theorem postD_ap {K : PostR} {its : Its} {x : AX} {ρ : Rho} {H : Hp} : postD K its x ρ H = K x ρ H its := _root_.id rfl

def altsP (E : Env) : List AC → Rho → Hp → Its → PostR → Prop
  | [], _, _, _, _ => True
  | c :: l, ρ, H, its, K => wp E none c ρ H (fun x ρ' H' => x = .nrm ∧ K .nrm ρ' H' its) ∧ altsP E l ρ H its K

def wpR (C : DCalls) (E : Env) : DC → Rho → Hp → Its → PostR → Prop
  | .base c, ρ, H, its, K => wp E none c ρ H (postD K its)
  | .regD l, ρ, H, its, K => wpRO C E l ρ H its (K .nrm)
  | .alts l, ρ, H, its, K => l ≠ [] ∧ altsP E l ρ H its K
  | .seq a b, ρ, H, its, K => wpR C E a ρ H its fun x ρ' H' its' => match x with | .nrm => wpR C E b ρ' H' its' K | x => K x ρ' H' its'
  | .cond c a b, ρ, H, its, K => ∃ t, evR ρ c = avBool t ∧ (t = true → wpR C E a ρ H its K) ∧ (t = false → wpR C E b ρ H its K)
  | .block id b, ρ, H, its, K => wpR C E b ρ H its fun x ρ' H' its' => match x with | .exit i => if i = id then K .nrm ρ' H' its' else K (.exit i) ρ' H' its' | x => K x ρ' H' its'
  | .loop b, ρ, H, its, K => ∃ k, iterR (fun ρ H its K => wpR C E b ρ H its K) K k ρ H its

/-- Are all temporaries that are written below n? -/
def dstDO (n : Nat) : DOp → Bool
  | .op o => dstO n o.dst
  | .range d _ => decide (d < n)
  | .next d _ => decide (d < n)
  | .entry d _ => decide (d < n)
  | .call d _ _ => dstO n d
def dstDC (n : Nat) : DC → Bool
  | .base c => dstOK n c
  | .regD l => l.all (dstDO n)
  | .alts l => l.all (dstOK n)
  | .seq a b => dstDC n a && dstDC n b
  | .cond _ a b => dstDC n a && dstDC n b
  | .block _ b => dstDC n b
  | .loop b => dstDC n b

section
variable {Γ : Sums} {A : Tab} {C : DCalls}

theorem wpRO_sound : ∀ {l : List DOp} {τ : List AV} {H : Hp} {its : Its} {K : Rho → Hp → Its → Prop}, l.all (dstDO τ.length) = true → wpRO C (lim Γ A) l (rho τ) H its K → wpDO C (lim Γ A) l τ H its fun τ' H' its' => τ'.length = τ.length ∧ K (rho τ') H' its'
  | [], τ, H, its, K, _, h => ⟨rfl, h⟩
  | .op o :: r, τ, H, its, K, hd, h => by
    simp only [List.all_cons, Bool.and_eq_true, dstDO] at hd
    obtain ⟨τ', H', e1, e2, e3⟩ := wpO_sound (R := []) (by simpa using hd.1) (by simp) h
    simp only [execQ] at e1
    split at e1
    · split at e1
      · rename_i v g hg
        simp only [Option.some.injEq, Prod.mk.injEq] at e1
        obtain ⟨rfl, rfl⟩ := e1
        refine ⟨v, g, ?_, ?_⟩
        · simpa only [actQ] using hg
        · refine wpDO_mono (fun τ2 H2 its2 k => ⟨by rw [k.1, e2], k.2⟩) (wpRO_sound (l := r) (by rw [e2]; exact hd.2) e3)
      · simp at e1
    · simp at e1
  | .range d m :: r, τ, H, its, K, hd, h => by
    simp only [List.all_cons, Bool.and_eq_true, dstDO, decide_eq_true_eq] at hd
    obtain ⟨id, es, clk, e1, e2, h⟩ := h
    refine ⟨id, es, clk, by rw [aeval_rho]; exact e1, e2, fun s => ?_⟩
    have h := h s
    rw [← rho_aput (fun n e => by cases e; exact hd.1)] at h
    exact wpDO_mono (fun τ2 H2 its2 k => ⟨by rw [k.1, aput_length], k.2⟩) (wpRO_sound (l := r) (by rw [aput_length]; exact hd.2) h)
  | .next d it :: r, τ, H, its, K, hd, h => by
    simp only [List.all_cons, Bool.and_eq_true, dstDO, decide_eq_true_eq] at hd
    obtain ⟨id, I, es, e1, e2, e3, h1, h2⟩ := h
    refine ⟨id, I, es, by rw [aeval_rho]; exact e1, e2, e3, fun e => ?_, fun e he => ?_⟩
    · have h := h1 e
      rw [← rho_aput (fun n e => by cases e; exact hd.1)] at h
      exact wpDO_mono (fun τ2 H2 its2 k => ⟨by rw [k.1, aput_length], k.2⟩) (wpRO_sound (l := r) (by rw [aput_length]; exact hd.2) h)
    · have h := h2 e he
      rw [← rho_aput (fun n e => by cases e; exact hd.1)] at h
      exact wpDO_mono (fun τ2 H2 its2 k => ⟨by rw [k.1, aput_length], k.2⟩) (wpRO_sound (l := r) (by rw [aput_length]; exact hd.2) h)
  | .entry d it :: r, τ, H, its, K, hd, h => by
    simp only [List.all_cons, Bool.and_eq_true, dstDO, decide_eq_true_eq] at hd
    obtain ⟨id, I, es, e, e1, e2, e3, e4, e5, e6, h⟩ := h
    refine ⟨id, I, es, e, by rw [aeval_rho]; exact e1, e2, e3, e4, e5, e6, ?_⟩
    rw [← rho_aput (fun n e => by cases e; exact hd.1)] at h
    exact wpDO_mono (fun τ2 H2 its2 k => ⟨by rw [k.1, aput_length], k.2⟩) (wpRO_sound (l := r) (by rw [aput_length]; exact hd.2) h)
  | .call d f args :: r, τ, H, its, K, hd, h => by
    simp only [List.all_cons, Bool.and_eq_true, dstDO] at hd
    obtain ⟨R, hR, h⟩ := h
    have he : args.map (evR (rho τ)) = args.map (aeval τ) := by rw [aeval_rho]
    refine ⟨R, by rw [← he]; exact hR, fun v g hv => ?_⟩
    have h := h v g hv
    rw [← rho_aput (fun n e => by subst e; simpa [dstO] using hd.1)] at h
    exact wpDO_mono (fun τ2 H2 its2 k => ⟨by rw [k.1, aput_length], k.2⟩) (wpRO_sound (l := r) (by rw [aput_length]; exact hd.2) h)

theorem altsP_mem {E : Env} : ∀ {l : List AC} {ρ : Rho} {H : Hp} {its : Its} {K : PostR}, altsP E l ρ H its K → ∀ c ∈ l, wp E none c ρ H (fun x ρ' H' => x = .nrm ∧ K .nrm ρ' H' its)
  | [], ρ, H, its, K, h, c, hc => by simp at hc
  | d :: l, ρ, H, its, K, h, c, hc => by
    rcases List.mem_cons.1 hc with rfl | hc
    · exact h.1
    · exact altsP_mem h.2 c hc

theorem wpR_sound : ∀ (c : DC) {τ : List AV} {H : Hp} {its : Its} {K : PostR}, dstDC τ.length c = true → wpR C (lim Γ A) c (rho τ) H its K → wpDC C (lim Γ A) c τ H its fun x τ' H' its' => τ'.length = τ.length ∧ K x (rho τ') H' its'
  | .base c, τ, H, its, K, hd, h => by
    obtain ⟨x, τ', H', e1, e2, e3⟩ := wp_sound c hd h
    exact ⟨x, τ', H', e1, e2, e3⟩
  | .regD l, τ, H, its, K, hd, h => wpRO_sound hd h
  | .alts l, τ, H, its, K, hd, h => ⟨h.1, fun c hc => by
    simp only [dstDC, List.all_eq_true] at hd
    obtain ⟨x, τ', H', e1, e2, e3, e4⟩ := wp_sound c (hd c hc) (altsP_mem h.2 c hc)
    subst e3
    exact ⟨τ', H', e1, e2, e4⟩⟩
  | .seq a b, τ, H, its, K, hd, h => by
    simp only [dstDC, Bool.and_eq_true] at hd
    refine wpDC_mono a (fun x τ' H' its' k => ?_) (wpR_sound a hd.1 h)
    cases x with
    | nrm => exact wpDC_mono b (fun _ _ _ _ j => ⟨by rw [j.1, k.1], j.2⟩) (wpR_sound b (by rw [k.1]; exact hd.2) k.2)
    | ret => exact k
    | exit i => exact k
  | .cond c a b, τ, H, its, K, hd, h => by
    simp only [dstDC, Bool.and_eq_true] at hd
    obtain ⟨t, e, h1, h2⟩ := h
    exact ⟨t, by rw [aeval_rho]; exact e, fun k => wpR_sound a hd.1 (h1 k), fun k => wpR_sound b hd.2 (h2 k)⟩
  | .block id b, τ, H, its, K, hd, h => by
    refine wpDC_mono b (fun x τ' H' its' k => ?_) (wpR_sound b hd h)
    cases x with
    | nrm => exact k
    | ret => exact k
    | exit i =>
      simp only [] at k ⊢
      by_cases hi : i = id
      · rw [if_pos hi] at k ⊢; exact k
      · rw [if_neg hi] at k ⊢; exact k
  | .loop b, τ, H, its, K, hd, h => by
    obtain ⟨k, h⟩ := h
    refine ⟨k, ?_⟩
    have key : ∀ (k : Nat) {n : Nat} {τ : List AV} {H : Hp} {its : Its}, τ.length = n → dstDC n b = true → iterR (fun ρ H its K => wpR C (lim Γ A) b ρ H its K) K k (rho τ) H its →
        iterD (fun τ H its K => wpDC C (lim Γ A) b τ H its K) (fun x τ' H' its' => τ'.length = n ∧ K x (rho τ') H' its') k τ H its := by
      intro k
      induction k with
      | zero => intro n τ H its _ _ h; exact h
      | succ k ih =>
        intro n τ H its hn hd h
        simp only [iterR, iterD] at h ⊢
        refine wpDC_mono b (fun x τ' H' its' j => ?_) (wpR_sound b (by rw [hn]; exact hd) h)
        cases x with
        | nrm => exact ih (j.1.trans hn) hd j.2
        | ret => exact ⟨j.1.trans hn, j.2⟩
        | exit i => exact ⟨j.1.trans hn, j.2⟩
    exact key k rfl hd h
end

/-! ### Step by step -/
section
variable {E : Env} {C : DCalls} {ρ : Rho} {H : Hp} {its : Its}
def seqD (C : DCalls) (E : Env) (b : DC) (K : PostR) : PostR := fun x ρ' H' its' => match x with | .nrm => wpR C E b ρ' H' its' K | x => K x ρ' H' its'
@[simp ↓] theorem seqD_nrm {b : DC} {K : PostR} : seqD C E b K .nrm ρ H its = wpR C E b ρ H its K := _root_.id rfl
@[simp ↓] theorem seqD_ret {b : DC} {K : PostR} : seqD C E b K .ret ρ H its = K .ret ρ H its := _root_.id rfl
@[simp ↓] theorem seqD_exit {b : DC} {K : PostR} {i : Nat} : seqD C E b K (.exit i) ρ H its = K (.exit i) ρ H its := _root_.id rfl
def blockD (id : Nat) (K : PostR) : PostR := fun x ρ' H' its' => match x with | .exit i => if i = id then K .nrm ρ' H' its' else K (.exit i) ρ' H' its' | x => K x ρ' H' its'
@[simp ↓] theorem blockD_nrm {id : Nat} {K : PostR} : blockD id K .nrm ρ H its = K .nrm ρ H its := _root_.id rfl
@[simp ↓] theorem blockD_ret {id : Nat} {K : PostR} : blockD id K .ret ρ H its = K .ret ρ H its := _root_.id rfl
@[simp ↓] theorem blockD_exit {id i : Nat} {K : PostR} : blockD id K (.exit i) ρ H its = if i = id then K .nrm ρ H its else K (.exit i) ρ H its := _root_.id rfl
@[simp ↓] theorem wpR_base {c : AC} {K : PostR} : wpR C E (.base c) ρ H its K = wp E none c ρ H (postD K its) := _root_.id rfl
@[simp ↓] theorem wpR_seq {a b : DC} {K : PostR} : wpR C E (.seq a b) ρ H its K = wpR C E a ρ H its (seqD C E b K) := _root_.id rfl
@[simp ↓] theorem wpR_block {id : Nat} {b : DC} {K : PostR} : wpR C E (.block id b) ρ H its K = wpR C E b ρ H its (blockD id K) := _root_.id rfl
@[simp ↓] theorem wpR_cond {c : Opd} {a b : DC} {K : PostR} : wpR C E (.cond c a b) ρ H its K = bindB (evR ρ c) fun t => iteP t (wpR C E a ρ H its K) (wpR C E b ρ H its K) := _root_.id rfl
def altP (K : PostR) (its : Its) : Post := fun x ρ' H' => x = .nrm ∧ K .nrm ρ' H' its
@[simp ↓] theorem altP_nrm {K : PostR} : altP K its .nrm ρ H = K .nrm ρ H its := by simp [altP]
theorem wpR_alts {l : List AC} {K : PostR} (h0 : l ≠ []) (h : ∀ c ∈ l, wp E none c ρ H (altP K its)) : wpR C E (.alts l) ρ H its K := by
  refine ⟨h0, ?_⟩
  clear h0
  induction l with
  | nil => trivial
  | cons c l ih => exact ⟨h c (by simp), ih fun c hc => h c (by simp [hc])⟩

theorem wpRO_mono : ∀ {l : List DOp} {ρ : Rho} {H : Hp} {its : Its} {K K' : Rho → Hp → Its → Prop}, (∀ ρ H its, K ρ H its → K' ρ H its) → wpRO C E l ρ H its K → wpRO C E l ρ H its K'
  | [], ρ, H, its, K, K', hk, h => hk _ _ _ h
  | .op o :: r, ρ, H, its, K, K', hk, h => wpO_mono (fun ρ H h => wpRO_mono hk h) h
  | .range d m :: r, ρ, H, its, K, K', hk, h => by
    obtain ⟨id, es, clk, e1, e2, h⟩ := h
    exact ⟨id, es, clk, e1, e2, fun s => wpRO_mono hk (h s)⟩
  | .next d it :: r, ρ, H, its, K, K', hk, h => by
    obtain ⟨id, I, es, e1, e2, e3, h1, h2⟩ := h
    exact ⟨id, I, es, e1, e2, e3, fun e => wpRO_mono hk (h1 e), fun e he => wpRO_mono hk (h2 e he)⟩
  | .entry d it :: r, ρ, H, its, K, K', hk, h => by
    obtain ⟨id, I, es, e, e1, e2, e3, e4, e5, e6, h⟩ := h
    exact ⟨id, I, es, e, e1, e2, e3, e4, e5, e6, wpRO_mono hk h⟩
  | .call d f args :: r, ρ, H, its, K, K', hk, h => by
    obtain ⟨R, hR, h⟩ := h
    exact ⟨R, hR, fun v g hv => wpRO_mono hk (h v g hv)⟩

theorem wpR_mono : ∀ (c : DC) {ρ : Rho} {H : Hp} {its : Its} {K K' : PostR}, (∀ x ρ H its, K x ρ H its → K' x ρ H its) → wpR C E c ρ H its K → wpR C E c ρ H its K'
  | .base c, ρ, H, its, K, K', hk, h => wp_mono c (fun x ρ H h => hk x ρ H its h) h
  | .regD l, ρ, H, its, K, K', hk, h => wpRO_mono (fun ρ H its => hk .nrm ρ H its) h
  | .alts l, ρ, H, its, K, K', hk, h => by
    refine ⟨h.1, ?_⟩
    have h2 := h.2
    clear h
    induction l with
    | nil => trivial
    | cons c l ih => exact ⟨wp_mono c (fun x ρ H h => ⟨h.1, hk _ _ _ _ h.2⟩) h2.1, ih h2.2⟩
  | .seq a b, ρ, H, its, K, K', hk, h => by
    refine wpR_mono a (fun x ρ H its h => ?_) h
    cases x with
    | nrm => exact wpR_mono b hk h
    | ret => exact hk _ _ _ _ h
    | exit i => exact hk _ _ _ _ h
  | .cond c a b, ρ, H, its, K, K', hk, h => by
    obtain ⟨t, e, h1, h2⟩ := h
    exact ⟨t, e, fun k => wpR_mono a hk (h1 k), fun k => wpR_mono b hk (h2 k)⟩
  | .block id b, ρ, H, its, K, K', hk, h => by
    refine wpR_mono b (fun x ρ H its h => ?_) h
    cases x with
    | nrm => exact hk _ _ _ _ h
    | ret => exact hk _ _ _ _ h
    | exit i =>
      simp only [] at h ⊢
      by_cases hi : i = id
      · rw [if_pos hi] at h ⊢; exact hk _ _ _ _ h
      · rw [if_neg hi] at h ⊢; exact hk _ _ _ _ h
  | .loop b, ρ, H, its, K, K', hk, h => by
    obtain ⟨k, h⟩ := h
    refine ⟨k, ?_⟩
    have key : ∀ (k : Nat) (ρ : Rho) (H : Hp) (its : Its), iterR (fun ρ H its K => wpR C E b ρ H its K) K k ρ H its → iterR (fun ρ H its K => wpR C E b ρ H its K) K' k ρ H its := by
      intro k
      induction k with
      | zero => intro ρ H its h; exact h
      | succ k ih =>
        intro ρ H its h
        simp only [iterR] at h ⊢
        refine wpR_mono b (fun x ρ H its h => ?_) h
        cases x with
        | nrm => exact ih _ _ _ h
        | ret => exact hk _ _ _ _ h
        | exit i => exact hk _ _ _ _ h
    exact key k _ _ _ h

@[simp ↓] theorem wpR_regD {l : List DOp} {K : PostR} : wpR C E (.regD l) ρ H its K = wpRO C E l ρ H its (K .nrm) := _root_.id rfl
@[simp ↓] theorem wpRO_nil {K : Rho → Hp → Its → Prop} : wpRO C E [] ρ H its K = K ρ H its := _root_.id rfl
def contD (C : DCalls) (E : Env) (r : List DOp) (its : Its) (K : Rho → Hp → Its → Prop) : Rho → Hp → Prop := fun ρ' H' => wpRO C E r ρ' H' its K
@[simp ↓] theorem contD_ap {r : List DOp} {K : Rho → Hp → Its → Prop} : contD C E r its K ρ H = wpRO C E r ρ H its K := _root_.id rfl
@[simp ↓] theorem wpRO_op {o : AOper} {r : List DOp} {K : Rho → Hp → Its → Prop} : wpRO C E (.op o :: r) ρ H its K = wpL E [o] ρ H (contD C E r its K) := _root_.id rfl
theorem wpRO_range {d : Nat} {m : Opd} {r : List DOp} {K : Rho → Hp → Its → Prop} {id clk : Nat} {es : List (Value × AV × Nat)} (h1 : evR ρ m = .map id) (h2 : hget H id = some (.map es clk)) (h : StOK es → wpRO C E r (updO ρ (some d) (.ptr H.l.length 0)) (hdead H) ((H.l.length, ⟨id, clk, [], none⟩) :: its) K) : wpRO C E (.range d m :: r) ρ H its K := ⟨id, es, clk, h1, h2, h⟩
theorem wpRO_next {d : Nat} {it : Opd} {r : List DOp} {K : Rho → Hp → Its → Prop} {id : Nat} {I : Itr} {es : List (Value × AV × Nat)} (h1 : evR ρ it = .ptr id 0) (h2 : its.lookup id = some I) (h3 : hget H I.m = some (.map es I.clk))
    (h4 : leftL es I.seen = [] → wpRO C E r (updO ρ (some d) (.tup [avBool false])) H its K) (h5 : ∀ e ∈ leftL es I.seen, wpRO C E r (updO ρ (some d) (.tup [avBool true, .lit e.1, e.2.1])) H ((id, { I with seen := I.seen ++ [e.2.2], last := some e }) :: its) K) : wpRO C E (.next d it :: r) ρ H its K := ⟨id, I, es, h1, h2, h3, h4, h5⟩
theorem wpRO_entry {d : Nat} {it : Opd} {r : List DOp} {K : Rho → Hp → Its → Prop} {id : Nat} {I : Itr} {es : List (Value × AV × Nat)} {e : Value × AV × Nat} (h1 : evR ρ it = .ptr id 0) (h2 : its.lookup id = some I) (h3 : hget H I.m = some (.map es I.clk)) (h4 : I.last = some e) (h5 : e ∈ es) (h6 : I.seen.getLast? = some e.2.2)
    (h : wpRO C E r (updO ρ (some d) (.tup [.lit e.1, e.2.1])) H its K) : wpRO C E (.entry d it :: r) ρ H its K := ⟨id, I, es, e, h1, h2, h3, h4, h5, h6, h⟩
theorem wpRO_call {d : Option Nat} {f : FuncId} {args : List Opd} {r : List DOp} {K : Rho → Hp → Its → Prop} {R : AV × Option Hp → Prop} (h1 : C.run f (args.map (evR ρ)) H R) (h : ∀ v g, R (v, g) → wpRO C E r (updO ρ d v) (g.getD H) its K) : wpRO C E (.call d f args :: r) ρ H its K := ⟨R, h1, h⟩
/-- What a round owes. -/
def roundD (I : Nat → Rho → Hp → Its → Prop) (n : Nat) (K : PostR) : PostR := fun x ρ' H' its' => match x with | .nrm => ∃ m, m < n ∧ I m ρ' H' its' | x => K x ρ' H' its'
@[simp ↓] theorem roundD_nrm {I : Nat → Rho → Hp → Its → Prop} {n : Nat} {K : PostR} : roundD I n K .nrm ρ H its = ∃ m, m < n ∧ I m ρ H its := _root_.id rfl
@[simp ↓] theorem roundD_ret {I : Nat → Rho → Hp → Its → Prop} {n : Nat} {K : PostR} : roundD I n K .ret ρ H its = K .ret ρ H its := _root_.id rfl
@[simp ↓] theorem roundD_exit {I : Nat → Rho → Hp → Its → Prop} {n i : Nat} {K : PostR} : roundD I n K (.exit i) ρ H its = K (.exit i) ρ H its := _root_.id rfl
/-- A loop by an invariant that falls. -/
theorem wpR_round {b : DC} {K : PostR} (I : Nat → Rho → Hp → Its → Prop) {n : Nat} (h0 : I n ρ H its) (hs : ∀ n ρ H its, I n ρ H its → wpR C E b ρ H its (roundD I n K)) : wpR C E (.loop b) ρ H its K := by
  refine ⟨n + 1, ?_⟩
  have bound : ∀ (j n : Nat) (ρ : Rho) (H : Hp) (its : Its), n < j → I n ρ H its → iterR (fun ρ H its K => wpR C E b ρ H its K) K j ρ H its := by
    intro j
    induction j with
    | zero => intro n ρ H its hn _; omega
    | succ j ihj =>
      intro n ρ H its hn hI
      simp only [iterR]
      refine wpR_mono b (fun x ρ H its k => ?_) (hs n ρ H its hI)
      cases x with
      | nrm =>
        obtain ⟨m, hm, hI⟩ := k
        exact ihj m ρ H its (by omega) hI
      | ret => exact k
      | exit i => exact k
  exact bound (n + 1) n ρ H its (by omega) h0

@[simp ↓] theorem wpA_bsliceD {e : TypeId} {sz len : Nat} {lay : Option Nat} {z : List AV} {ps : List (Nat × Nat × Opd)} {Q : AV → Hp → Prop} : wpA E 1 (.bslice e sz lay len z ps) ρ H Q =
    bindO (fillA (repl len z) (ps.map fun (o, s, x) => (o, s, evR ρ x))) fun cs => andQ ((chunk sz lay len cs).all (fun y => y.good && y.cells.length == sz && (lay.isSome || y.one)) = true) (Q (.ra sz H.l.length 0 len) (halloc H (.arr sz (chunk sz lay len cs) e))) := by
  rw [← wpA_bslice]
  refine wpA_one_zero ?_
  simp only [aopER, aopR]
  cases hf : fillA (repl len z) (ps.map fun (o, s, x) => (o, s, evR ρ x)) with
  | none => exact .inl fun d => rfl
  | some cs =>
    simp only [Option.bind_some]
    by_cases hc : (chunk sz lay len cs).all (fun y => y.good && y.cells.length == sz && (lay.isSome || y.one)) = true
    · simp only [hc, if_true]
      exact .inr ⟨_, _, fun d => rfl⟩
    · simp only [hc, if_false]
      exact .inl fun d => rfl
end

/-! ### Functions and laws -/
section
variable {P : Program} {W : World} {Γ : Sums} {A : Tab} {C : DCalls}

/-- A function's end. -/
def EndsD (rs : List (Sum Nat (Nat × Option Nat))) (fz : Bool) (H : Hp) (R : AV × Option Hp → Prop) : PostR := fun x ρ H' _ => Ends rs fz H R x ρ H'
@[simp ↓] theorem EndsD_nrm {rs : List (Sum Nat (Nat × Option Nat))} {z : Bool} {H : Hp} {R : AV × Option Hp → Prop} {ρ : Rho} {H' : Hp} {its : Its} : EndsD rs z H R .nrm ρ H' its = bindO (resR rs ρ H') fun v => R (settleZ z H v H') := Ends_nrm
@[simp ↓] theorem EndsD_ret {rs : List (Sum Nat (Nat × Option Nat))} {z : Bool} {H : Hp} {R : AV × Option Hp → Prop} {ρ : Rho} {H' : Hp} {its : Its} : EndsD rs z H R .ret ρ H' its = bindO (resR rs ρ H') fun v => R (settleZ z H v H') := Ends_ret
@[simp ↓] theorem EndsD_exit {rs : List (Sum Nat (Nat × Option Nat))} {z : Bool} {H : Hp} {R : AV × Option Hp → Prop} {ρ : Rho} {H' : Hp} {its : Its} {i : Nat} : EndsD rs z H R (.exit i) ρ H' its = False := Ends_exit

def okD (fn : DFunc) (k : Nat) : Bool := dstDC (k + (fn.ntmps - k)) fn.body

theorem DRunP.of {fn : DFunc} {args : List AV} {H : Hp} {R : AV × Option Hp → Prop} (hd : okD fn args.length = true) (h : wpR C (lim Γ A) fn.body (rho0 args) { l := H.l, d := none } [] (EndsD fn.results fn.frz H R)) : DRunP C Γ A fn args H R := by
  rw [← rho_args args (fn.ntmps - args.length)] at h
  refine wpDC_mono _ (fun x τ' H' its k => ?_) (wpR_sound fn.body (by simpa [okD] using hd) h)
  obtain ⟨_, hx, v, h1, h2⟩ := k
  exact ⟨hx, v, by rw [resA_rho, h1], h2⟩

theorem calls_d (hC : DCOK P C) (hΓ : GOK P Γ) (hT : TOK P A) {hint : Nat → Option AltT} {fn : Func} {f : FuncId} {df : DFunc} (hf : P.funcs[f]? = some fn) (hp : pDFunc P hint fn = some { df with frz := false }) {xs : List AV} {args : Array Value} {b : Bool} (hx : VRels io0 (fz0 W) xs args.toList)
    (e : DRunP C Γ A df xs ⟨[], none⟩ fun r => r.1 = avBool b) : Calls P f args W fun en W' => en = .returned (.bool b) ∧ Below W.heap.size W W' := by
  obtain ⟨_, h2⟩ := entDP_sound (H := ⟨[], none⟩) hC hΓ hT hf hp relH0 hx e
  refine (callsIn_wide.1 h2).mono fun en W' he => ?_
  cases en with
  | panicked c => exact he.elim
  | outgrown => exact he.elim
  | returned v =>
    obtain ⟨u, g, hu, ι', s, _, hv⟩ := he
    simp only at hu
    subst hu
    simp only [VRel] at hv
    subst hv
    refine ⟨rfl, s.os, s.tape, s.output, s.size, fun k hk => (s.frame k hk ?_).2⟩
    rintro ⟨i, o, p, h, _⟩
    simp at h

/-- A law that comes to true whatever is drawn. -/
theorem law_limD {H : Type} {enc : TypeId × Value → H} {fn : Func} {s : ChangeSpec} (hC : DCOK P C) (hΓ : GOK P Γ) (hT : TOK P A) (hl : laidOutB P = true) {f : FuncId} {hint : Nat → Option AltT} {df : DFunc} (hf : P.funcs[f]? = some fn) (hp : pDFunc P hint fn = some { df with frz := false })
    {args : Array Value} {ds gs : List (DataW H)} {before : List MemPlace} {tb : TypeId}
    (hs0 : s.vars = []) (hrt : fn.resultTypes = #[tb]) (htb : P.underlying tb = some .bool) (hr : (fn.params.toList.all fun t => P.readableRec t && decide (t < P.types.size)) = true)
    (hW : DataW.Whole enc P fn.params.toList s.vars false W args.toList ds gs before) (hs : (s.fn H (ds ++ gs)).results = [.lit (.bool true)] ∧ (s.fn H (ds ++ gs)).args = ds ∧ (s.fn H (ds ++ gs)).vars = [])
    {xs : List AV} (hx : VRels io0 (fz0 W) xs args.toList) (e : DRunP C Γ A df xs ⟨[], none⟩ fun r => r.1 = avBool true) :
    Calls P f args W fun en W' => ∃ v, en = .returned v ∧ s.post enc P fn false true false false W args v W' := by
  refine (calls_d hC hΓ hT hf hp hx e).mono fun en W' ⟨he, hb⟩ => ⟨_, he, ?_⟩
  have hW' := hW
  obtain ⟨p, q, hA, hV, rfl, _, _⟩ := hW
  refine ⟨ds, gs, p ++ q, [], p, [], hW', ?_, ?_, ?_, hb.frame _, fun hh => by cases hh⟩
  · rw [hs.1, hrt]
    exact trodAll_mk1 (shut_bool htb true)
  · rw [hs.2.1]
    exact trodAll_stays hl hb hr hA (fun x hx => hW'.lt x (by simp [hx]))
  · rw [hs.2.2, hs0]
    exact rfl
end
end Go.Proofs.Eng
/- The engine, part AU: what is left of a map, as a loop goes through it in whatever order. -/
set_option linter.unusedVariables false
set_option linter.unusedSimpArgs false
namespace Go.Proofs.Eng
open Go
abbrev MEs := List (Value × AV × Nat)
def stps (es : MEs) : List Nat := es.map fun e => e.2.2

theorem leftL_nil (es : MEs) : leftL es [] = es := by
  unfold leftL
  exact List.filter_eq_self.2 (by simp)
theorem leftL_snoc (es : MEs) (seen : List Nat) (s : Nat) : leftL es (seen ++ [s]) = (leftL es seen).filter fun e => !(e.2.2 == s) := by
  unfold leftL
  rw [List.filter_filter]
  congr 1
  funext e
  simp only [List.contains_eq_mem, List.mem_append, List.mem_singleton]
  by_cases h1 : e.2.2 ∈ seen <;> by_cases h2 : e.2.2 = s <;> simp [h1, h2]
theorem leftL_stps {es : MEs} (h : (stps es).Nodup) (seen : List Nat) : (stps (leftL es seen)).Nodup :=
  (List.Sublist.map _ List.filter_sublist).nodup h

theorem filter_stp {e : Value × AV × Nat} : ∀ {l : MEs}, (stps l).Nodup → e ∈ l → l.Perm (e :: l.filter fun x => !(x.2.2 == e.2.2))
  | [], _, h => by simp at h
  | x :: r, hn, h => by
    simp only [stps, List.map_cons, List.nodup_cons, List.mem_map, not_exists, not_and] at hn
    rcases List.mem_cons.1 h with rfl | h
    · have : r.filter (fun x => !(x.2.2 == e.2.2)) = r := List.filter_eq_self.2 fun y hy => by
        have := hn.1 y hy
        simpa using this
      simp [this]
    · have hne : (x.2.2 == e.2.2) = false := by
        have := hn.1 e h
        simpa using fun k => this k.symm
      have ih := filter_stp (l := r) hn.2 h
      rw [List.filter_cons_of_pos (by simp [hne])]
      exact (ih.cons x).trans (List.Perm.swap _ _ _)

/-- How far a loop through a map has come. -/
structure Gone (es done : MEs) (seen : List Nat) : Prop where
  eq : seen = stps done
  perm : (done ++ leftL es seen).Perm es
theorem Gone.nil (es : MEs) : Gone es [] [] := ⟨rfl, by rw [leftL_nil]; exact List.Perm.refl _⟩
theorem Gone.step {es done : MEs} {seen : List Nat} {e : Value × AV × Nat} (hs : StOK es) (h : Gone es done seen) (he : e ∈ leftL es seen) : Gone es (done ++ [e]) (seen ++ [e.2.2]) ∧ (leftL es (seen ++ [e.2.2])).length + 1 = (leftL es seen).length := by
  have hp := filter_stp (leftL_stps hs.1 seen) he
  rw [leftL_snoc]
  refine ⟨⟨by rw [h.eq]; simp [stps], ?_⟩, by have := hp.length_eq; simp only [List.length_cons] at this; omega⟩
  rw [leftL_snoc, List.append_assoc]
  exact ((List.Perm.append_left done hp).symm).trans h.perm
theorem Gone.mem {es done : MEs} {seen : List Nat} {e : Value × AV × Nat} (h : Gone es done seen) (he : e ∈ leftL es seen) : e ∈ es := h.perm.mem_iff.1 (List.mem_append_right _ he)
theorem Gone.done {es done : MEs} {seen : List Nat} (h : Gone es done seen) (he : leftL es seen = []) : done.Perm es := by
  have := h.perm
  rwa [he, List.append_nil] at this
theorem Gone.sub {es done : MEs} {seen : List Nat} {e : Value × AV × Nat} (h : Gone es done seen) (he : e ∈ done) : e ∈ es := h.perm.mem_iff.1 (List.mem_append_left _ he)
theorem Gone.len {es done : MEs} {seen : List Nat} (h : Gone es done seen) : done.length + (leftL es seen).length = es.length := by
  have := h.perm.length_eq
  simpa using this
/-! ### Maps keyed by texts -/
theorem vPut_new {k : List UInt8} {c : AV} {l : List (List UInt8 × AV)} (h : ∀ x ∈ l, x.1 ≠ k) : vPut k c l = l ++ [(k, c)] := by
  have : vFind k l = none := by
    induction l with
    | nil => rfl
    | cons y r ih =>
      simp only [vFind]
      rw [if_neg (fun e => h y (by simp) e.symm), ih (fun x hx => h x (by simp [hx]))]
      rfl
  unfold vPut
  rw [this]
end Go.Proofs.Eng
