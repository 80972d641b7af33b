/- The engine, part AK: loops over functions that lay objects of their own. -/
import Derived.Test.YtchbifaiofljdaaEngAF
import Derived.Test.YtchbifaiofljdaaEngAI
set_option linter.unusedVariables false
set_option linter.unusedSimpArgs false
namespace Go.Proofs.Eng
open Go Go.RowKit

/-- A function that tells n elements, one by one; it may lay objects, and writes none that was there. S: what the loop's body may write. -/
def GenM (W : Env) (g : FuncId) (fs cs : List AV) (V : Hp → Prop) (n : Nat) (X : Nat → Hp → List AV → Prop) : Prop :=
  ∀ (l : Nat) (H : Hp) (K : Nat → List Nat → Hp → Prop) (Kx : Hp → Prop) (S0 : List Nat), l < H.l.length → (∀ s ∈ S0, s < H.l.length) → l ∈ S0 →
    (∀ i S H' H'', K i S H' → Mut H' H'' [] → K i S H'') → (∀ i S H', K i S H' → V H') → K 0 S0 { l := H.l, d := none } →
    (∀ i S H' args, i < n → K i S H' → X i H' args → ∃ t H'' S', W.yld l args H' = some (avBool t, some H'') ∧ (∃ m, H''.d = some m ∧ m ≤ l) ∧ Mut H' H'' S ∧ (∀ s ∈ S', s ∈ S ∨ H'.l.length ≤ s) ∧ (t = true → K (i + 1) S' H'') ∧ (t = false → Kx H'')) →
    ∃ v h H2, W.ent g (fs ++ [.yld l] ++ cs) H = some (v, h) ∧ (h.getD H).l = H2.l ∧ (h.getD H).d = dminO H.d H2.d ∧ ((∃ S, K n S H2) ∨ Kx H2)

section
variable {Γ : Sums} {A : Tab} {H0 : Hp}

theorem Loc.still {H H' : Hp} {os : List (Nat × AObj)} (h : Loc H0 H os) (k : Mut H H' []) : Loc H0 H' os :=
  h.mut k (by simp) (fun p hp => ⟨k.get' (h.get hp) (by simp), h.ge hp⟩) h.nd

theorem range_locM {g : FuncId} {fs cs : List AV} {V : Hp → Prop} {n : Nat} {X : Nat → Hp → List AV → Prop} {rd : Option Nat} {ps : List Nat} {asg body : AC} {τ : List AV} {H : Hp} {os : List (Nat × AObj)} (hg : GenM (lim Γ A) g fs cs V n X) (hrd : rdAlive H rd = true) (hl : Loc H0 H os)
    (hps : ∀ p ∈ ps, p < τ.length) (hda : dstOK τ.length asg = true) (hdb : dstOK τ.length body = true)
    (I : Nat → List (Nat × AObj) → Prop) (Qx : AX → List (Nat × AObj) → Prop) (hV : ∀ i H' l o os', Loc H0 H' ((l, o) :: os') → I i os' → V H') (h0 : I 0 os)
    (step : ∀ i (hi : i < n) H' os' args, Loc H0 H' ((H.l.length, .loop .ready .nrm τ ps asg body) :: os') → I i os' → X i H' args → args.length = ps.length ∧
      wp (lim Γ A) (some H.l.length) asg (putR ps args (rho τ)) H' fun x ρ' H1 => x = .nrm ∧ ∃ os1, Loc H0 H1 ((H.l.length, .loop .ready .nrm τ ps asg body) :: os1) ∧ Mut H' H1 (H.l.length :: os'.map Prod.fst) ∧
        ∀ H1', Loc H0 H1' ((H.l.length, .loop .busy .nrm τ ps asg body) :: os1) → Mut H' H1' (H.l.length :: os'.map Prod.fst) → wp (lim Γ A) (some H.l.length) body ρ' H1' fun x ρ2 H2 =>
          ∃ os2, Loc H0 H2 ((H.l.length, .loop .busy .nrm τ ps asg body) :: os2) ∧ Mut H' H2 (H.l.length :: os'.map Prod.fst) ∧ (∀ s ∈ os2.map Prod.fst, s ∈ os'.map Prod.fst ∨ H'.l.length ≤ s) ∧ ((x = .nrm ∧ I (i + 1) os2) ∨ (x ≠ .nrm ∧ Qx x os2))) :
    ∃ x H2 os2, (lim Γ A).range rd (.fn g fs cs) ps asg body τ H = some (x, τ, H2) ∧ Loc H0 H2 os2 ∧ ((x = .nrm ∧ I n os2) ∨ (x ≠ .nrm ∧ Qx x os2)) := by
  let l := H.l.length
  have hl1 := hl.alloc (.loop .ready .nrm τ ps asg body)
  obtain ⟨v, h, H2, e1, e2, e3, hK⟩ := hg l (halloc H (.loop .ready .nrm τ ps asg body)) (fun i S H' => ∃ os', S = l :: os'.map Prod.fst ∧ Loc H0 H' ((l, .loop .ready .nrm τ ps asg body) :: os') ∧ I i os')
    (fun H' => ∃ x os', x ≠ AX.nrm ∧ Loc H0 H' ((l, .loop .done x τ ps asg body) :: os') ∧ Qx x os') (l :: os.map Prod.fst) (by simp [l]) (fun s hs => by
      rcases List.mem_cons.1 hs with rfl | hs
      · simp [l]
      · obtain ⟨p, hp, rfl⟩ := List.mem_map.1 hs
        have := hl.lt hp
        simp; omega) (by simp) (by rintro i S H' H'' ⟨os', hS, hL, hI⟩ hm; exact ⟨os', hS, hL.still hm, hI⟩) (by rintro i S H' ⟨os', hS, hL, hI⟩; exact hV i H' _ _ os' hL hI) ⟨os, rfl, hl1.dnone, h0⟩ (by
      rintro i S H' args hi ⟨os', rfl, hL, hI⟩ hX
      rw [lim_yld_eq]
      obtain ⟨hxl, hstep⟩ := step i hi H' os' args hL hI hX
      obtain ⟨x1, τ1, H1, f1, f2, rfl, os1, hL1, hM1, f3⟩ := wp_sound (τ := putAll ps args τ) asg (by rw [putAll_len]; exact hda) (by rw [rho_putAll _ _ _ hps]; exact hstep)
      rw [putAll_len] at f2
      obtain ⟨x2, τ2, H3, g1, g2, os2, hL2, hM2, hs2, g3⟩ := wp_sound (τ := τ1) body (by rw [f2]; exact hdb) (f3 _ (hL1.set _) (hM1.set (.inl (by simp [l]))))
      have a1 := hL.head
      have a2 := hL1.head
      have a3 := hL2.head
      refine ⟨x2 == .nrm, hset H3 l (some (.loop (if x2 = .nrm then .ready else .done) x2 τ ps asg body)), l :: os2.map Prod.fst, ?_, ⟨dmin' H3.d l, ?_, ?_⟩, hM2.set (.inl (by simp [l])), ?_, ?_, ?_⟩
      · unfold runY
        simp only [l, a1, hxl, if_true, f1, a2, g1, a3]
      · simp only [hset_d]; exact dmin'_eq _ _
      · exact dmin'_le _ _
      · intro s hs
        rcases List.mem_cons.1 hs with rfl | hs
        · exact .inl (by simp)
        · rcases hs2 s hs with hs | hs
          · exact .inl (by simp [hs])
          · exact .inr hs
      · intro ht
        have hx : x2 = .nrm := by simpa using ht
        subst hx
        rcases g3 with ⟨_, g3⟩ | ⟨g3, _⟩
        · exact ⟨os2, rfl, hL2.set _, g3⟩
        · exact absurd rfl g3
      · intro ht
        have hx : x2 ≠ .nrm := by simpa using ht
        rcases g3 with ⟨g3, _⟩ | ⟨_, g3⟩
        · exact absurd g3 hx
        · refine ⟨x2, os2, hx, ?_, g3⟩
          rw [if_neg hx]
          exact hL2.set _)
  have hmv : ∀ {o : AObj} {os' : List (Nat × AObj)}, Loc H0 H2 ((l, o) :: os') → Loc H0 (h.getD (halloc H (.loop .ready .nrm τ ps asg body))) ((l, o) :: os') := by
    intro o os' hL
    refine ⟨by rw [e2]; exact hL.len, fun m hm => ?_, fun i hi => by rw [e2]; exact hL.old i hi, fun p hp => ?_, hL.nd⟩
    · rw [e3] at hm
      simp only [halloc_d] at hm
      cases hd2 : H2.d with
      | none => rw [hd2] at hm; exact hl.d m (by simpa using hm)
      | some k =>
        rw [hd2] at hm
        have hk := hL.d k hd2
        simp only [dminO_some] at hm
        cases hd : H.d with
        | none => rw [hd] at hm; simp at hm; omega
        | some j => rw [hd] at hm; simp at hm; have := hl.d j hd; omega
    · have := hL.has p hp
      refine ⟨?_, this.2⟩
      unfold hget at this ⊢
      rw [e2]; exact this.1
  rw [lim_range_eq]
  unfold runR
  rw [if_pos hrd]
  simp only []
  show ∃ x H2' os2, (match (lim Γ A).ent g (fs ++ [AV.yld l] ++ cs) (halloc H (.loop .ready .nrm τ ps asg body)) with
      | some (_, h) =>
        match hget (h.getD (halloc H (.loop .ready .nrm τ ps asg body))) l with
        | some (.loop st pe _ _ _ _) => if st = .busy then none else some (pe, τ, hset (h.getD (halloc H (.loop .ready .nrm τ ps asg body))) l none)
        | _ => none
      | none => none) = some (x, τ, H2') ∧ _
  rw [e1]
  rcases hK with ⟨S, os', hS, hL, hI⟩ | ⟨x, os', hx, hL, hI⟩
  · have a1 := (hmv hL).head
    refine ⟨.nrm, _, os', by simp only [a1]; rfl, (hmv hL).kill, .inl ⟨rfl, hI⟩⟩
  · have a1 := (hmv hL).head
    refine ⟨x, _, os', by simp only [a1]; rfl, (hmv hL).kill, .inr ⟨hx, hI⟩⟩

/-- The same, as a step of code; the loop's own object stays shut. -/
theorem wp_rangeFnM {g : FuncId} {fs cs : List AV} {V : Hp → Prop} {n : Nat} {X : Nat → Hp → List AV → Prop} {rd : Option Nat} {f : Opd} {ps : List Nat} {asg body : AC} {ρ : Rho} {H : Hp} {os : List (Nat × AObj)} {Q : Post} (hf : evR ρ f = .fn g fs cs) (hg : GenM (lim Γ A) g fs cs V n X) (hrd : rdAlive H rd = true) (hl : Loc H0 H os)
    (I : Nat → List (Nat × AObj) → Prop) (Qx : AX → List (Nat × AObj) → Prop) (hV : ∀ i H' l o os', Loc H0 H' ((l, o) :: os') → I i os' → V H') (h0 : I 0 os)
    (step : ∀ i (hi : i < n) l lo lb H' os' args, isLoopO lo = true → isLoopO lb = true → Loc H0 H' ((l, lo) :: os') → I i os' → X i H' args → args.length = ps.length ∧
      wp (lim Γ A) (some l) asg (putR ps args ρ) H' fun x ρ' H1 => x = .nrm ∧ ∃ os1, Loc H0 H1 ((l, lo) :: os1) ∧ Mut H' H1 (l :: os'.map Prod.fst) ∧
        ∀ H1', Loc H0 H1' ((l, lb) :: os1) → Mut H' H1' (l :: os'.map Prod.fst) → wp (lim Γ A) (some l) body ρ' H1' fun x ρ2 H2 =>
          ∃ os2, Loc H0 H2 ((l, lb) :: os2) ∧ Mut H' H2 (l :: os'.map Prod.fst) ∧ (∀ s ∈ os2.map Prod.fst, s ∈ os'.map Prod.fst ∨ H'.l.length ≤ s) ∧ ((x = .nrm ∧ I (i + 1) os2) ∨ (x ≠ .nrm ∧ Qx x os2)))
    (hQ : ∀ x H2 os2, Loc H0 H2 os2 → ((x = .nrm ∧ I n os2) ∨ (x ≠ .nrm ∧ Qx x os2)) → Q x ρ H2) : wp (lim Γ A) rd (.rangeFn f ps asg body) ρ H Q := by
  simp only [wp]
  intro τ hτ hok
  subst hτ
  simp only [Bool.and_eq_true, List.all_eq_true, decide_eq_true_eq] at hok
  obtain ⟨x, H2, os2, e1, e2, e3⟩ := range_locM hg hrd hl hok.1.1 hok.1.2 hok.2 I Qx hV h0 (fun i hi H' os' args h1 h2 h3 => step i hi _ _ (.loop .busy .nrm τ ps asg body) H' os' args rfl rfl h1 h2 h3)
  rw [hf]
  exact ⟨x, H2, e1, hQ x H2 os2 e2 e3⟩
end
end Go.Proofs.Eng
