/- The engine, part AF: loops over functions, by what the function tells. -/
import Derived.Test.YtcmdnlpkplaapaaEngAE
set_option linter.unusedVariables false
set_option linter.unusedSimpArgs false
namespace Go.Proofs.Eng
open Go Go.RowKit

/-- A function that tells a row, element by element, and does nothing else. -/
def GenW (W : Env) (g : FuncId) (fs cs : List AV) (V : Hp → Prop) (xs : List (List AV)) : Prop :=
  ∀ (l : Nat) (H : Hp) (K : Nat → Hp → Prop) (Kx : Hp → Prop), l < H.l.length → (∀ i H', K i H' → V H') → K 0 { l := H.l, d := none } →
    (∀ i (hi : i < xs.length) H', K i H' → ∃ t H'', W.yld l xs[i] H' = some (avBool t, some H'') ∧ (∃ m, H''.d = some m ∧ m ≤ l) ∧ (t = true → K (i + 1) H'') ∧ (t = false → Kx H'')) →
    ∃ v h H2, W.ent g (fs ++ [.yld l] ++ cs) H = some (v, h) ∧ (h.getD H).l = H2.l ∧ (h.getD H).d = dminO H.d H2.d ∧ (K xs.length H2 ∨ Kx H2)

def dmin' (d : Option Nat) (n : Nat) : Nat := match d with | none => n | some m => min m n
theorem dmin'_eq (d : Option Nat) (n : Nat) : dmin d n = some (dmin' d n) := by cases d <;> rfl
theorem dmin'_le (d : Option Nat) (n : Nat) : dmin' d n ≤ n := by cases d <;> simp [dmin']; omega

def putR : List Nat → List AV → Rho → Rho
  | p :: ps, x :: xs, ρ => putR ps xs (upd ρ p x)
  | _, _, ρ => ρ
@[simp] theorem putR_cons {p : Nat} {ps : List Nat} {x : AV} {xs : List AV} {ρ : Rho} : putR (p :: ps) (x :: xs) ρ = putR ps xs (upd ρ p x) := _root_.id rfl
@[simp] theorem putR_nil {xs : List AV} {ρ : Rho} : putR [] xs ρ = ρ := by cases xs <;> rfl
theorem putAll_len : ∀ (ps : List Nat) (xs τ : List AV), (putAll ps xs τ).length = τ.length
  | [], _, _ => by simp [putAll]
  | p :: ps, [], _ => by simp [putAll]
  | p :: ps, x :: xs, τ => by simp only [putAll]; rw [putAll_len]; simp
theorem rho_putAll : ∀ (ps : List Nat) (xs τ : List AV), (∀ p ∈ ps, p < τ.length) → rho (putAll ps xs τ) = putR ps xs (rho τ)
  | [], _, _, _ => by simp [putAll]
  | p :: ps, [], _, _ => by simp [putAll, putR]
  | p :: ps, x :: xs, τ, h => by
    simp only [putAll, putR]
    rw [rho_putAll ps xs _ (by intro q hq; simpa using h q (by simp [hq])), rho_set (h p (by simp))]

section
variable {Γ : Sums} {A : Tab} {H0 : Hp}

theorem range_loc {g : FuncId} {fs cs : List AV} {V : Hp → Prop} {xs : List (List AV)} {rd : Option Nat} {ps : List Nat} {asg body : AC} {τ : List AV} {H : Hp} {os : List (Nat × AObj)} (hg : GenW (lim Γ A) g fs cs V xs) (hrd : rdAlive H rd = true) (hl : Loc H0 H os)
    (hps : ∀ p ∈ ps, p < τ.length) (hda : dstOK τ.length asg = true) (hdb : dstOK τ.length body = true) (hlen : ∀ x ∈ xs, x.length = ps.length)
    (I : Nat → List (Nat × AObj) → Prop) (Qx : AX → List (Nat × AObj) → Prop) (hV : ∀ i H' l o os', Loc H0 H' ((l, o) :: os') → I i os' → V H') (h0 : I 0 os)
    (step : ∀ i (hi : i < xs.length) H' os', Loc H0 H' ((H.l.length, .loop .ready .nrm τ ps asg body) :: os') → I i os' →
      wp (lim Γ A) (some H.l.length) asg (putR ps xs[i] (rho τ)) H' fun x ρ' H1 => x = .nrm ∧ ∃ os1, Loc H0 H1 ((H.l.length, .loop .ready .nrm τ ps asg body) :: os1) ∧
        ∀ H1', Loc H0 H1' ((H.l.length, .loop .busy .nrm τ ps asg body) :: os1) → wp (lim Γ A) (some H.l.length) body ρ' H1' fun x ρ2 H2 =>
          ∃ os2, Loc H0 H2 ((H.l.length, .loop .busy .nrm τ ps asg body) :: os2) ∧ ((x = .nrm ∧ I (i + 1) os2) ∨ (x ≠ .nrm ∧ Qx x os2))) :
    ∃ x H2 os2, (lim Γ A).range rd (.fn g fs cs) ps asg body τ H = some (x, τ, H2) ∧ Loc H0 H2 os2 ∧ ((x = .nrm ∧ I xs.length os2) ∨ (x ≠ .nrm ∧ Qx x os2)) := by
  let l := H.l.length
  have hl1 := hl.alloc (.loop .ready .nrm τ ps asg body)
  obtain ⟨v, h, H2, e1, e2, e3, hK⟩ := hg l (halloc H (.loop .ready .nrm τ ps asg body)) (fun i H' => ∃ os', Loc H0 H' ((l, .loop .ready .nrm τ ps asg body) :: os') ∧ I i os')
    (fun H' => ∃ x os', x ≠ AX.nrm ∧ Loc H0 H' ((l, .loop .done x τ ps asg body) :: os') ∧ Qx x os') (by simp [l]) (fun i H' ⟨os', hL, hI⟩ => hV i H' _ _ os' hL hI) ⟨os, hl1.dnone, h0⟩ (by
      rintro i hi H' ⟨os', hL, hI⟩
      rw [lim_yld_eq]
      obtain ⟨x1, τ1, H1, f1, f2, rfl, os1, hL1, f3⟩ := wp_sound (τ := putAll ps xs[i] τ) asg (by rw [putAll_len]; exact hda) (by rw [rho_putAll _ _ _ hps]; exact step i hi H' os' hL hI)
      rw [putAll_len] at f2
      obtain ⟨x2, τ2, H3, g1, g2, os2, hL2, g3⟩ := wp_sound (τ := τ1) body (by rw [f2]; exact hdb) (f3 _ (hL1.set _))
      have a1 := hL.head
      have a2 := hL1.head
      have a3 := hL2.head
      have hxl : xs[i].length = ps.length := hlen _ (List.getElem_mem _)
      refine ⟨x2 == .nrm, hset H3 l (some (.loop (if x2 = .nrm then .ready else .done) x2 τ ps asg body)), ?_, ⟨dmin' H3.d l, ?_, ?_⟩, ?_, ?_⟩
      · unfold runY
        simp only [l, a1, hxl, if_true, f1, a2, g1, a3]
      · simp only [hset_d]; exact dmin'_eq _ _
      · exact dmin'_le _ _
      · intro ht
        have hx : x2 = .nrm := by simpa using ht
        subst hx
        rcases g3 with ⟨_, g3⟩ | ⟨g3, _⟩
        · exact ⟨os2, hL2.set _, g3⟩
        · exact absurd rfl g3
      · intro ht
        have hx : x2 ≠ .nrm := by simpa using ht
        rcases g3 with ⟨g3, _⟩ | ⟨_, g3⟩
        · exact absurd g3 hx
        · refine ⟨x2, os2, hx, ?_, g3⟩
          rw [if_neg hx]
          exact hL2.set _)
  have hmv : ∀ {o : AObj} {os' : List (Nat × AObj)}, Loc H0 H2 ((l, o) :: os') → Loc H0 (h.getD (halloc H (.loop .ready .nrm τ ps asg body))) ((l, o) :: os') := by
    intro o os' hL
    refine ⟨by rw [e2]; exact hL.len, fun m hm => ?_, fun i hi => by rw [e2]; exact hL.old i hi, fun p hp => ?_, hL.nd⟩
    · rw [e3] at hm
      simp only [halloc_d] at hm
      cases hd2 : H2.d with
      | none => rw [hd2] at hm; exact hl.d m (by simpa using hm)
      | some k =>
        rw [hd2] at hm
        have hk := hL.d k hd2
        simp only [dminO_some] at hm
        cases hd : H.d with
        | none => rw [hd] at hm; simp at hm; omega
        | some j => rw [hd] at hm; simp at hm; have := hl.d j hd; omega
    · have := hL.has p hp
      refine ⟨?_, this.2⟩
      unfold hget at this ⊢
      rw [e2]; exact this.1
  rw [lim_range_eq]
  unfold runR
  rw [if_pos hrd]
  simp only []
  show ∃ x H2' os2, (match (lim Γ A).ent g (fs ++ [AV.yld l] ++ cs) (halloc H (.loop .ready .nrm τ ps asg body)) with
      | some (_, h) =>
        match hget (h.getD (halloc H (.loop .ready .nrm τ ps asg body))) l with
        | some (.loop st pe _ _ _ _) => if st = .busy then none else some (pe, τ, hset (h.getD (halloc H (.loop .ready .nrm τ ps asg body))) l none)
        | _ => none
      | none => none) = some (x, τ, H2') ∧ _
  rw [e1]
  rcases hK with ⟨os', hL, hI⟩ | ⟨x, os', hx, hL, hI⟩
  · have a1 := (hmv hL).head
    refine ⟨.nrm, _, os', by simp only [a1]; rfl, (hmv hL).kill, .inl ⟨rfl, hI⟩⟩
  · have a1 := (hmv hL).head
    refine ⟨x, _, os', by simp only [a1]; rfl, (hmv hL).kill, .inr ⟨hx, hI⟩⟩

def isLoopO : AObj → Bool
  | .loop .. => true
  | _ => false
/-- The same, as a step of code; the loop's own object stays shut. -/
theorem wp_rangeFn {g : FuncId} {fs cs : List AV} {V : Hp → Prop} {xs : List (List AV)} {rd : Option Nat} {f : Opd} {ps : List Nat} {asg body : AC} {ρ : Rho} {H : Hp} {os : List (Nat × AObj)} {Q : Post} (hf : evR ρ f = .fn g fs cs) (hg : GenW (lim Γ A) g fs cs V xs) (hrd : rdAlive H rd = true) (hl : Loc H0 H os)
    (hlen : ∀ x ∈ xs, x.length = ps.length)
    (I : Nat → List (Nat × AObj) → Prop) (Qx : AX → List (Nat × AObj) → Prop) (hV : ∀ i H' l o os', Loc H0 H' ((l, o) :: os') → I i os' → V H') (h0 : I 0 os)
    (step : ∀ i (hi : i < xs.length) l lo lb H' os', isLoopO lb = true → Loc H0 H' ((l, lo) :: os') → I i os' →
      wp (lim Γ A) (some l) asg (putR ps xs[i] ρ) H' fun x ρ' H1 => x = .nrm ∧ ∃ os1, Loc H0 H1 ((l, lo) :: os1) ∧
        ∀ H1', Loc H0 H1' ((l, lb) :: os1) → wp (lim Γ A) (some l) body ρ' H1' fun x ρ2 H2 =>
          ∃ os2, Loc H0 H2 ((l, lb) :: os2) ∧ ((x = .nrm ∧ I (i + 1) os2) ∨ (x ≠ .nrm ∧ Qx x os2)))
    (hQ : ∀ x H2 os2, Loc H0 H2 os2 → ((x = .nrm ∧ I xs.length os2) ∨ (x ≠ .nrm ∧ Qx x os2)) → Q x ρ H2) : wp (lim Γ A) rd (.rangeFn f ps asg body) ρ H Q := by
  simp only [wp]
  intro τ hτ hok
  subst hτ
  simp only [Bool.and_eq_true, List.all_eq_true, decide_eq_true_eq] at hok
  obtain ⟨x, H2, os2, e1, e2, e3⟩ := range_loc hg hrd hl hok.1.1 hok.1.2 hok.2 hlen I Qx hV h0 (fun i hi H' os' h1 h2 => step i hi _ _ (.loop .busy .nrm τ ps asg body) H' os' rfl h1 h2)
  rw [hf]
  exact ⟨x, H2, e1, hQ x H2 os2 e2 e3⟩
end
end Go.Proofs.Eng
