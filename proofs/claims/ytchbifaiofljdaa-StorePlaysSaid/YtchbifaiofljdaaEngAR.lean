/- The engine, part AR: code run for whatever is drawn, soundly; functions of such code; laws. -/
import Derived.Test.YtchbifaiofljdaaEngAQ
import Derived.Test.YtchbifaiofljdaaEngAG
set_option linter.unusedVariables false
set_option linter.unusedSimpArgs false
namespace Go.Proofs.Eng
open Go Go.RowKit

section
variable {P : Program} {ι : Io} {w : World}

theorem region_any {E : Env} {ro : Option Nat} {id : Nat} {ops : Array Oper} {ac : AC} {Q : Exit → Act → World → Prop} {ι₀ : Io} {L₀ : HL} {w₀ : World} {ds : Nat} {τ τ' : List AV} {H H' : Hp} {a : Act} {x : AX} (hE : EOK P E) (hp : pRegion P id ops true = some ac)
    (hat : At P ι₀ L₀ w₀ ds τ H.l a w) (h : execC E none ac τ H = some (x, τ', H')) (hQ : ∀ a' w', At P ι₀ L₀ w₀ ds τ' H'.l a' w' → Q .normal a' w') (md : Region.Mode) :
    wpAnyIn (Fr ro) 0 P md ops Q ops.size (Array.replicate ops.size false) a { w with drawn := w.drawn + 1 } := by
  simp only [pRegion, Option.bind_eq_bind, Option.pure_def] at hp
  obtain ⟨l, hl, hp⟩ := Option.bind_eq_some_iff.1 hp
  have hlen : l.length = ops.size := by rw [mapM_length hl]; simp
  simp only [if_true] at hp
  split at hp
  · rename_i hc
    simp only [Bool.and_eq_true] at hc
    obtain ⟨⟨c1, c2⟩, c3⟩ := hc
    simp only [Option.some.injEq] at hp
    subst hp
    generalize planOf ops.toList l = pl at *
    obtain ⟨q, π, als⟩ := pl
    simp only at c1 c2 h
    generalize hdf : difOf (maskTab ops.toList []) l = df at *
    simp only [execC] at h
    split at h
    · rename_i hdo
      obtain ⟨pr, h9, h2⟩ := Option.map_eq_some_iff.1 h
      simp only [Prod.mk.injEq] at h2
      obtain ⟨rfl, rfl, rfl⟩ := h2
      have hq : q.length = l.length := by simpa using c2
      have hlq : (l.zip q).length = ops.size := by simp [hq, hlen]
      have hpl := plan_of hlq c1
      have hzip : ∀ π : List Nat, (π.filterMap (l[·]?)).zip (π.filterMap (q[·]?)) = π.filterMap ((l.zip q)[·]?) := by
        intro π
        induction π with
        | nil => rfl
        | cons k π ih =>
          by_cases hk : k < l.length
          · have hk2 : k < q.length := by omega
            have e1 : l[k]? = some l[k] := List.getElem?_eq_getElem hk
            have e2 : q[k]? = some q[k] := List.getElem?_eq_getElem hk2
            have e3 : (l.zip q)[k]? = some (l[k], q[k]) := by rw [List.getElem?_zip_eq_some]; exact ⟨e1, e2⟩
            rw [List.filterMap_cons, List.filterMap_cons, List.filterMap_cons, e1, e2, e3]
            simp only [List.zip_cons_cons, ih]
          · have e1 : l[k]? = none := List.getElem?_eq_none (by omega)
            have e2 : q[k]? = none := List.getElem?_eq_none (by omega)
            have e3 : (l.zip q)[k]? = none := List.getElem?_eq_none (by simp; omega)
            rw [List.filterMap_cons, List.filterMap_cons, List.filterMap_cons, e1, e2, e3]
            exact ih
      obtain ⟨ι, q1, q2, q3, q4⟩ := hat.ex
      obtain ⟨d1, d2⟩ := q2.draw (w' := { w with drawn := w.drawn + 1 }) rfl rfl rfl rfl
      have hlenπ : π.length = ops.size := by
        have h1 : π.length ≤ (List.range ops.size).length := List.Nodup.length_le_of_subset hpl.nod (fun i hi => by simpa using (hpl.cov i).1 hi)
        have h2 : (List.range ops.size).length ≤ π.length := List.Nodup.length_le_of_subset List.nodup_range (fun i hi => (hpl.cov i).2 (by simpa using hi))
        simp at h1 h2; omega
      refine any_sound (md := md) hE hpl ?_ c3 hQ ops.size π π [] [] _ τ H a _ hlenπ hpl.nod ?_ (List.Sublist.refl _) (by simp) (by simp) (by simp) ?_ hdo ⟨⟨ι, τ, q1.trans d2, d1, d2.vs q3, q4.step d2, rfl, fun _ _ => rfl, by simp, by simp⟩⟩ ?_
      · intro i o x ho hx
        have := mapM_get hl i
        rw [show ops.toList[i]? = some o by simpa using ho, Option.bind_some] at this
        rw [this]
        rw [List.getElem?_zip_eq_some] at hx
        exact hx.1
      · intro i
        rw [hpl.cov]
        simp only [Array.getD_eq_getD_getElem?]
        constructor
        · intro hi; exact ⟨hi, by simp [hi]⟩
        · exact fun hi => hi.1
      · intro i o ho hi e he hb
        have hi' := (Array.getElem?_eq_some_iff.1 ho).1
        simp [Array.getD_eq_getD_getElem?, hi'] at hi
      · rw [← hzip]; exact h9
    · simp at h
  · simp only [Option.some.injEq] at hp
    subst hp
    simp only [execC, execOps, bad_none] at h
    simp at h

variable {Γ : Sums} {A : Tab}

/-- From a run that is known to a run for whatever is drawn. -/
theorem AtD.start {ι₀ : Io} {L₀ : HL} {w₀ : World} {ds : Nat} {τ : List AV} {L : HL} {its : Its} {a : Act} (h : AtD P ι₀ L₀ w₀ ds τ L its a w) (hds : ds ≤ w₀.heap.size) :
    ∃ ι, At P ι L w ds τ L a w ∧ ds ≤ w.heap.size ∧ ∀ {τ' : List AV} {L' : HL} {a' : Act} {w' : World}, At P ι L w ds τ' L' a' w' → AtD P ι₀ L₀ w₀ ds τ' L' its a' w' := by
  obtain ⟨ι, q1, q2, q3, q4, q5⟩ := h.ex
  refine ⟨ι, ⟨ι, Stp.refl _ _ _, q2, q3, q4⟩, Nat.le_trans hds q1.size, fun hat => ?_⟩
  obtain ⟨ι', s1, s2, s3, s4⟩ := hat.ex
  exact ⟨ι', q1.trans s1, s2, s3, s4, q5.step s1⟩

theorem base_sound (hΓ : GOK P Γ) (hT : TOK P A) {ι₀ : Io} {L₀ : HL} {w₀ : World} {ds : Nat} (hds : ds ≤ w₀.heap.size) {c : Code} {ac : AC} {Q : Exit → Act → World → Prop} {τ τ' : List AV} {H H' : Hp} {its : Its} {a : Act} {x : AX} (hp : pCode P c = some ac)
    (hat : AtD P ι₀ L₀ w₀ ds τ H.l its a w) (h : execC (lim Γ A) none ac τ H = some (x, τ', H')) (hQ : ∀ a' w', AtD P ι₀ L₀ w₀ ds τ' H'.l its a' w' → Q x.ex a' w') : c.wpIn (Fr none) 0 P Q a w := by
  obtain ⟨n, h⟩ := execC_cont ac h
  obtain ⟨ι, h1, h2, h3⟩ := hat.start hds
  exact execC_sound (rd := none) (ro := none) (env_sound hΓ hT n) rfl h2 c hp h1 h fun a' w' hat' => hQ a' w' (h3 hat')

theorem wpDC_sound {C : DCalls} (hC : DCOK P C) (hΓ : GOK P Γ) (hT : TOK P A) {hint : Nat → Option AltT} {ι₀ : Io} {L₀ : HL} {w₀ : World} {ds : Nat} (hds : ds ≤ w₀.heap.size) :
    ∀ (c : Code) {dc : DC} {Q : Exit → Act → World → Prop} {τ : List AV} {H : Hp} {its : Its} {a : Act} {w : World} {K : DPost}, pD P hint c = some dc → AtD P ι₀ L₀ w₀ ds τ H.l its a w → wpDC C (lim Γ A) dc τ H its K →
    (∀ x τ' H' its' a' w', AtD P ι₀ L₀ w₀ ds τ' H'.l its' a' w' → K x τ' H' its' → Q x.ex a' w') → c.wpIn (Fr none) 0 P Q a w
  | .region id ops draw, dc, Q, τ, H, its, a, w, K, hp, hat, h, hQ => by
    simp only [pD] at hp
    split at hp
    · rename_i hdr
      subst hdr
      split at hp
      · rename_i T hT'
        split at hp
        · rename_i hc
          simp only [Bool.and_eq_true] at hc
          obtain ⟨l, hl, rfl⟩ := Option.map_eq_some_iff.1 hp
          refine region_alts T hc.1 hc.2 fun ops' hm md => ?_
          obtain ⟨k, hk⟩ := List.getElem?_of_mem hm
          have hg := mapM_get hl k
          rw [hk, Option.bind_some] at hg
          have hmem : ∃ ac, l[k]? = some ac := by
            have h1 := mapM_length hl
            have h2 := (List.getElem?_eq_some_iff.1 hk).1
            exact ⟨l[k]'(by omega), List.getElem?_eq_getElem (by omega)⟩
          obtain ⟨ac, hac⟩ := hmem
          rw [hac] at hg
          obtain ⟨τ', H', he, hK⟩ := h.2 ac (List.mem_of_getElem? hac)
          obtain ⟨n, he⟩ := execC_cont ac he
          obtain ⟨ι, h1, h2, h3⟩ := hat.start hds
          exact region_any (ro := none) (env_sound hΓ hT n).toEOK hg h1 he (fun a' w' hat' => hQ .nrm τ' H' its a' w' (h3 hat') hK) md
        · simp at hp
      · obtain ⟨ac, hac, rfl⟩ := Option.map_eq_some_iff.1 hp
        obtain ⟨x, τ', H', he, hK⟩ := h
        exact base_sound hΓ hT hds (c := .region id ops true) (by simp only [pCode]; exact hac) hat he fun a' w' hat' => hQ _ _ _ _ _ _ hat' hK
    · rename_i hdr
      have hdr : draw = false := by simpa using hdr
      subst hdr
      split at hp
      · obtain ⟨l, hl, rfl⟩ := Option.map_eq_some_iff.1 hp
        refine wpIn_region (dops_sound (hint := hint) hC (fun n => (env_sound hΓ hT n).toEOK) _ l (K := K .nrm) (fun k => ?_) (by rw [mapM_length hl]; simp) hat h (fun τ' H' its' a' w' hat' hk => hQ .nrm _ _ _ _ _ hat' hk))
        have := mapM_get hl k
        by_cases hk : k < ops.size
        · rw [List.getElem?_range hk]
          simpa using this
        · have hlen := mapM_length hl
          simp only [Array.length_toList] at hlen
          rw [List.getElem?_eq_none (by simp; omega), List.getElem?_eq_none (by omega)]; rfl
      · obtain ⟨ac, hac, rfl⟩ := Option.map_eq_some_iff.1 hp
        obtain ⟨x, τ', H', he, hK⟩ := h
        exact base_sound hΓ hT hds (c := .region id ops false) (by simp only [pCode]; exact hac) hat he fun a' w' hat' => hQ _ _ _ _ _ _ hat' hK
  | .seq c d, dc, Q, τ, H, its, a, w, K, hp, hat, h, hQ => by
    simp only [pD] at hp
    split at hp
    · simp only [Option.bind_eq_bind, Option.pure_def] at hp
      obtain ⟨ac1, h1, hp⟩ := Option.bind_eq_some_iff.1 hp
      obtain ⟨ac2, h2, hp⟩ := Option.bind_eq_some_iff.1 hp
      simp only [Option.some.injEq] at hp; subst hp
      refine wpIn_seq ?_
      refine wpDC_sound hC hΓ hT hds c h1 hat h fun x τ' H' its' a' w' hat' hk => ?_
      cases x with
      | nrm => exact wpDC_sound hC hΓ hT hds d h2 hat' hk hQ
      | ret => exact hQ _ _ _ _ _ _ hat' hk
      | exit i => exact hQ _ _ _ _ _ _ hat' hk
    · obtain ⟨ac, hac, rfl⟩ := Option.map_eq_some_iff.1 hp
      obtain ⟨x, τ', H', he, hK⟩ := h
      exact base_sound hΓ hT hds hac hat he fun a' w' hat' => hQ _ _ _ _ _ _ hat' hK
  | .cond g c d, dc, Q, τ, H, its, a, w, K, hp, hat, h, hQ => by
    simp only [pD] at hp
    split at hp
    · simp only [Option.bind_eq_bind, Option.pure_def] at hp
      obtain ⟨ac1, h1, hp⟩ := Option.bind_eq_some_iff.1 hp
      obtain ⟨ac2, h2, hp⟩ := Option.bind_eq_some_iff.1 hp
      simp only [Option.some.injEq] at hp; subst hp
      obtain ⟨t, ht, k1, k2⟩ := h
      obtain ⟨ι, q1, q2, q3, q4, q5⟩ := hat.ex
      cases hy : pOpd g with
      | none => rw [hy] at ht; simp [aeval] at ht
      | some y =>
      rw [hy] at ht
      simp only [Option.getD_some] at ht
      have hv := aeval_rel q3 hy
      rw [ht] at hv
      simp only [VRel] at hv
      cases t with
      | true => exact wpIn_cond_true hv (wpDC_sound hC hΓ hT hds c h1 hat (k1 rfl) hQ)
      | false => exact wpIn_cond_false hv (wpDC_sound hC hΓ hT hds d h2 hat (k2 rfl) hQ)
    · obtain ⟨ac, hac, rfl⟩ := Option.map_eq_some_iff.1 hp
      obtain ⟨x, τ', H', he, hK⟩ := h
      exact base_sound hΓ hT hds hac hat he fun a' w' hat' => hQ _ _ _ _ _ _ hat' hK
  | .block id c, dc, Q, τ, H, its, a, w, K, hp, hat, h, hQ => by
    simp only [pD] at hp
    split at hp
    · obtain ⟨b, hb, rfl⟩ := Option.map_eq_some_iff.1 hp
      refine wpIn_block ?_
      refine wpDC_sound hC hΓ hT hds c hb hat h fun x τ' H' its' a' w' hat' hk => ?_
      cases x with
      | nrm => exact hQ _ _ _ _ _ _ hat' hk
      | ret => exact hQ _ _ _ _ _ _ hat' hk
      | exit i =>
        simp only [] at hk
        by_cases hi : i = id
        · rw [if_pos hi] at hk
          simp only [AX.ex, Exit.inBlock, hi, if_true]
          exact hQ _ _ _ _ _ _ hat' hk
        · rw [if_neg hi] at hk
          simp only [AX.ex, Exit.inBlock, hi, if_false]
          exact hQ _ _ _ _ _ _ hat' hk
    · obtain ⟨ac, hac, rfl⟩ := Option.map_eq_some_iff.1 hp
      obtain ⟨x, τ', H', he, hK⟩ := h
      exact base_sound hΓ hT hds hac hat he fun a' w' hat' => hQ _ _ _ _ _ _ hat' hK
  | .loop c, dc, Q, τ, H, its, a, w, K, hp, hat, h, hQ => by
    simp only [pD] at hp
    split at hp
    · obtain ⟨b, hb, rfl⟩ := Option.map_eq_some_iff.1 hp
      obtain ⟨k, h⟩ := h
      refine wpIn_loop_rounds k ?_
      have key : ∀ k {τ : List AV} {H : Hp} {its : Its} {a : Act} {w : World}, AtD P ι₀ L₀ w₀ ds τ H.l its a w → iterD (fun τ H its K => wpDC C (lim Γ A) b τ H its K) K k τ H its → Code.roundsIn (Fr none) 0 P c Q k a w := by
        intro k
        induction k with
        | zero => intro τ H its a w _ h; exact h.elim
        | succ k ih =>
          intro τ H its a w hat h
          rw [roundsIn_succ]
          refine wpDC_sound hC hΓ hT hds c hb hat h fun x τ' H' its' a' w' hat' hk => ?_
          cases x with
          | nrm => exact ih hat' hk
          | ret => exact hQ _ _ _ _ _ _ hat' hk
          | exit i => exact hQ _ _ _ _ _ _ hat' hk
      exact key k hat h
    · obtain ⟨ac, hac, rfl⟩ := Option.map_eq_some_iff.1 hp
      obtain ⟨x, τ', H', he, hK⟩ := h
      exact base_sound hΓ hT hds hac hat he fun a' w' hat' => hQ _ _ _ _ _ _ hat' hK
  | .skip, dc, Q, τ, H, its, a, w, K, hp, hat, h, hQ => by
    simp only [pD] at hp
    obtain ⟨ac, hac, rfl⟩ := Option.map_eq_some_iff.1 hp
    obtain ⟨x, τ', H', he, hK⟩ := h
    exact base_sound hΓ hT hds hac hat he fun a' w' hat' => hQ _ _ _ _ _ _ hat' hK
  | .rangeFunc g ps ca cb, dc, Q, τ, H, its, a, w, K, hp, hat, h, hQ => by
    simp only [pD] at hp
    obtain ⟨ac, hac, rfl⟩ := Option.map_eq_some_iff.1 hp
    obtain ⟨x, τ', H', he, hK⟩ := h
    exact base_sound hΓ hT hds hac hat he fun a' w' hat' => hQ _ _ _ _ _ _ hat' hK
  | .exit id, dc, Q, τ, H, its, a, w, K, hp, hat, h, hQ => by
    simp only [pD] at hp
    obtain ⟨ac, hac, rfl⟩ := Option.map_eq_some_iff.1 hp
    obtain ⟨x, τ', H', he, hK⟩ := h
    exact base_sound hΓ hT hds hac hat he fun a' w' hat' => hQ _ _ _ _ _ _ hat' hK
  | .scope c, dc, Q, τ, H, its, a, w, K, hp, hat, h, hQ => by
    simp only [pD] at hp
    obtain ⟨ac, hac, rfl⟩ := Option.map_eq_some_iff.1 hp
    obtain ⟨x, τ', H', he, hK⟩ := h
    exact base_sound hΓ hT hds hac hat he fun a' w' hat' => hQ _ _ _ _ _ _ hat' hK
  | .label l, dc, Q, τ, H, its, a, w, K, hp, hat, h, hQ => by
    simp only [pD] at hp
    obtain ⟨ac, hac, rfl⟩ := Option.map_eq_some_iff.1 hp
    obtain ⟨x, τ', H', he, hK⟩ := h
    exact base_sound hΓ hT hds hac hat he fun a' w' hat' => hQ _ _ _ _ _ _ hat' hK
  | .goto l, dc, Q, τ, H, its, a, w, K, hp, hat, h, hQ => by
    simp only [pD] at hp
    obtain ⟨ac, hac, rfl⟩ := Option.map_eq_some_iff.1 hp
    obtain ⟨x, τ', H', he, hK⟩ := h
    exact base_sound hΓ hT hds hac hat he fun a' w' hat' => hQ _ _ _ _ _ _ hat' hK
  | .ret, dc, Q, τ, H, its, a, w, K, hp, hat, h, hQ => by
    simp only [pD] at hp
    obtain ⟨ac, hac, rfl⟩ := Option.map_eq_some_iff.1 hp
    obtain ⟨x, τ', H', he, hK⟩ := h
    exact base_sound hΓ hT hds hac hat he fun a' w' hat' => hQ _ _ _ _ _ _ hat' hK
  | .refuse s, dc, Q, τ, H, its, a, w, K, hp, hat, h, hQ => by
    simp only [pD] at hp
    obtain ⟨ac, hac, rfl⟩ := Option.map_eq_some_iff.1 hp
    obtain ⟨x, τ', H', he, hK⟩ := h
    exact base_sound hΓ hT hds hac hat he fun a' w' hat' => hQ _ _ _ _ _ _ hat' hK
end
end Go.Proofs.Eng
