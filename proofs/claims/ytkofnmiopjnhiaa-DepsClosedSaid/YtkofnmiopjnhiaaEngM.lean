/- The engine, part M: every operation that is no call of a Go function. -/
import Derived.Test.YtkofnmiopjnhiaaEngL
set_option linter.unusedVariables false
set_option linter.unusedSimpArgs false
namespace Go.Proofs.Eng
open Go Go.RowKit

/-- An operation that hands on a value related to v. -/
def OkN (P : Program) (PC : Code → AC → Prop) (ι : Io) (L : HL) (w : World) (s : Sem Next) (v : AV) (L' : HL) : Prop :=
  ∃ cv w' ι' nx, s.run P w = .ok nx w' ∧ (nx = .value cv ∨ (nx = .skip ∧ cv = undef)) ∧ Stp ι L w ι' L' w' ∧ RelH PC ι' L' w' ∧ VRel ι' (fzOf ι' L' w') v cv

section
variable {P : Program} {PC : Code → AC → Prop} {ι : Io} {w : World}

theorem OkS.next {L L' : HL} {s : Sem Value} {v : AV} (h : OkS P PC ι L w s v L') : OkN P PC ι L w (do pure (.value (← s))) v L' := by
  obtain ⟨cv, w', ι', h1, h2, h3, h4⟩ := h
  exact ⟨cv, w', ι', .value cv, by simp [h1], .inl rfl, h2, h3, h4⟩

theorem OkN.of {L : HL} (hr : RelH PC ι L w) {s : Sem Value} {v : AV} {cv : Value} (h : s.run P w = .ok cv w) (hv : VRel ι (fzOf ι L w) v cv) : OkN P PC ι L w (do pure (.value (← s))) v L :=
  (OkS.of hr h hv).next

theorem OkN.unit {L L' : HL} {s : Sem Unit} {w' : World} {ι' : Io} (h : s.run P w = .ok () w') (h1 : Stp ι L w ι' L' w') (h2 : RelH PC ι' L' w') : OkN P PC ι L w (do s; pure .skip) avU L' :=
  ⟨undef, w', ι', .skip, by simp [h], .inr ⟨rfl, rfl⟩, h1, h2, by simp only [VRel, undef]⟩

theorem pOpd_some {fz : Fz} {τ : List AV} {a : Act} (ht : VRels ι fz τ a.tmps.toList) {lo : Option Operand} {ol : Option Opd} (h : pOpt lo = some ol) :
    (∀ x, ol.map (aeval τ) = some x → ∃ c, lo.map a.eval = some c ∧ VRel ι fz x c) ∧ (ol.map (aeval τ) = none → lo.map a.eval = none) := by
  cases lo with
  | none => simp [pOpt] at h; subst h; simp
  | some x =>
    simp only [pOpt] at h
    obtain ⟨y, hy, rfl⟩ := Option.map_eq_some_iff.1 h
    refine ⟨fun z hz => ?_, fun hz => by simp at hz⟩
    simp at hz; subst hz
    exact ⟨_, rfl, aeval_rel ht hy⟩

theorem guard_pure {op : BinOp} {t : TypeId} {x y : Operand} {a b : Value} (h : P.eqGuardType P.depth t = false ∨ ∀ p q, a ≠ .agg p ∨ b ≠ .agg q) (h2 : a ≠ .nilIface ∨ b ≠ .nilIface) : (eqGuard op t x y a b).run P w = .ok () w := by
  unfold eqGuard
  cases op <;> first
    | rfl
    | (simp only [Bool.not_true, Bool.false_eq_true, if_false]
       cases a <;> cases b <;> first
         | rfl
         | (rename_i p q
            rcases h with h | h
            · simp [h]
            · rcases h p q with h | h <;> exact absurd rfl h)
         | (rcases h2 with h | h <;> exact absurd rfl h))

/-- No number and no text: equality goes by the type. -/
def PlainV : Value → Bool
  | .int _ _ => false
  | .float _ _ => false
  | .complex _ _ _ => false
  | .string _ => false
  | .nilIface => false
  | _ => true

theorem binOp_plain {t : TypeId} {cx cy : Value} (h : PlainV cx = true) (neg : Bool) : binOp (if neg then .neq else .eql) t cx cy = if neg then (do Pure.pure (.bool (!(← Op.equal t cx cy)))) else (do Pure.pure (.bool (← Op.equal t cx cy))) := by
  cases neg <;> cases cx <;> first
    | (simp [PlainV] at h; done)
    | (cases cy <;> rfl)

/-- What is held against each other: two numbers, two texts, or neither. -/
theorem aeq_shape {fz : Fz} {d : EqD} {x y : AV} {cx cy : Value} {b : Bool} (hx : VRel ι fz x cx) (hy : VRel ι fz y cy) (h : aeq d x y = some b) :
    (∃ k m n, cx = .int k m ∧ cy = .int k n ∧ b = (m == n)) ∨ (∃ m n, cx = .string m ∧ cy = .string n ∧ b = (m.toList == n.toList)) ∨
      (∃ k m n, cx = .float k m ∧ cy = .float k n ∧ b = Op.floatEq k m n) ∨ (PlainV cx = true ∧ ((∃ fs, d = .struct fs) ∨ ∀ p, cx ≠ .agg p)) := by
  cases d with
  | struct fs =>
    simp only [aeq] at h
    split at h
    · simp only [VRel] at hx
      obtain ⟨cs, rfl, _⟩ := hx
      exact .inr (.inr (.inr ⟨rfl, .inl ⟨_, rfl⟩⟩))
    · simp at h
  | pint =>
    simp only [aeq, aprim] at h
    unfold eqI at h
    split at h
    · split at h
      · rename_i hk; subst hk
        simp only [Option.some.injEq] at h; subst h
        simp only [VRel] at hx hy
        exact .inl ⟨_, _, _, hx, hy, rfl⟩
      · simp at h
    · simp at h
  | pstr =>
    simp only [aeq, aprim] at h
    unfold eqSt at h
    split at h
    · simp only [Option.some.injEq] at h; subst h
      simp only [VRel] at hx hy
      exact .inr (.inl ⟨_, _, hx, hy, by rw [toList_eq_bl, toList_eq_bl]⟩)
    · simp at h
  | pbool =>
    simp only [aeq, aprim] at h
    unfold eqB at h
    split at h
    · simp only [VRel] at hx; subst hx
      exact .inr (.inr (.inr ⟨rfl, .inr fun p e => by cases e⟩))
    · simp at h
  | pptr =>
    simp only [aeq, aprim] at h
    rcases nil2_inv h with ⟨a, c⟩ | ⟨a, c, _⟩ <;> (obtain ⟨o, rfl, _⟩ := nilP_sound hx a; exact .inr (.inr (.inr ⟨rfl, .inr fun p e => by cases e⟩)))
  | pslice =>
    simp only [aeq, aprim] at h
    rcases nil2_inv h with ⟨a, c⟩ | ⟨a, c, _⟩ <;> (obtain ⟨o, n, c, rfl, _⟩ := nilS_sound hx a; exact .inr (.inr (.inr ⟨rfl, .inr fun p e => by cases e⟩)))
  | pmap =>
    simp only [aeq, aprim] at h
    rcases nil2_inv h with ⟨a, c⟩ | ⟨a, c, _⟩ <;> (obtain ⟨o, rfl, _⟩ := nilM_sound hx a; exact .inr (.inr (.inr ⟨rfl, .inr fun p e => by cases e⟩)))
  | pfunc =>
    simp only [aeq, aprim] at h
    rcases nil2_inv h with ⟨a, c⟩ | ⟨a, c, _⟩ <;> (rcases nilF_sound hx a with ⟨rfl, _⟩ | ⟨f, p, q, rfl, _⟩ <;> exact .inr (.inr (.inr ⟨rfl, .inr fun p e => by cases e⟩)))
  | pfloat =>
    simp only [aeq, aprim] at h
    unfold eqFl at h
    split at h
    · split at h
      · rename_i hk; subst hk
        simp only [Option.some.injEq] at h; subst h
        simp only [VRel] at hx hy
        exact .inr (.inr (.inl ⟨_, _, _, hx, hy, rfl⟩))
      · simp at h
    · simp at h

theorem guard_flt (op : BinOp) (t : TypeId) (x y : Operand) (k k' : FloatKind) (m n : Nat) : (eqGuard op t x y (.float k m) (.float k' n)).run P w = .ok () w := by cases op <;> rfl
theorem guard_int (op : BinOp) (t : TypeId) (x y : Operand) (k k' : IntKind) (m n : Int) : (eqGuard op t x y (.int k m) (.int k' n)).run P w = .ok () w := by cases op <;> rfl
theorem guard_str (op : BinOp) (t : TypeId) (x y : Operand) (m n : ByteArray) : (eqGuard op t x y (.string m) (.string n)).run P w = .ok () w := by cases op <;> rfl
theorem pEq_struct {n : Nat} {t : TypeId} {fs : List (Nat × Option Nat × EqD)} (hp : pEq P (n + 1) t = some (.struct fs)) : P.eqGuardType P.depth t = false := by
  simp only [pEq] at hp
  split at hp <;> first
    | (simp at hp; done)
    | skip
  split at hp
  · simp at hp
  · rename_i hc
    simp only [Bool.or_eq_true, not_or, Bool.not_eq_true] at hc
    exact hc.2

/-- An equality of values of any kind. -/
theorem eq_sound {neg : Bool} {d : EqD} {t : TypeId} {x y : Operand} {p q : AV} {cx cy : Value} {b : Bool} {fz : Fz} (hp : pEq P 16 t = some d) (hx : VRel ι fz p cx) (hy : VRel ι fz q cy) (h : aeq d p q = some b) :
    (do eqGuard (if neg then .neq else .eql) t x y cx cy; binOp (if neg then .neq else .eql) t cx cy : Sem Value).run P w = .ok (.bool (if neg then !b else b)) w := by
  have heq : (Op.equal t cx cy).run P w = .ok b w := aeq_sound (P := P) (w := w) 16 (fuel := Op.maxDepth) (by decide) hp hx hy h
  rcases aeq_shape hx hy h with ⟨k, m, n, rfl, rfl, rfl⟩ | ⟨m, n, rfl, rfl, rfl⟩ | ⟨k, m, n, rfl, rfl, rfl⟩ | ⟨hpl, hs⟩
  · simp only [Sem.run_bind, guard_int, Result.andThen_ok]
    cases neg <;> simp [binOp, Op.intCmp, bne]
  · simp only [Sem.run_bind, guard_str, Result.andThen_ok]
    cases neg <;> simp [binOp, Op.stringOp]
  · simp only [Sem.run_bind, guard_flt, Result.andThen_ok]
    cases neg <;> simp [binOp, Op.floatCmp, Op.floatEq, bne]
  · have hn : cx ≠ .nilIface := by rintro rfl; simp [PlainV] at hpl
    have hg : P.eqGuardType P.depth t = false ∨ ∀ p q, cx ≠ .agg p ∨ cy ≠ .agg q := by
      rcases hs with ⟨fs, rfl⟩ | hs
      · exact .inl (pEq_struct hp)
      · exact .inr fun p' q' => .inl (hs p')
    simp only [Sem.run_bind, guard_pure hg (.inl hn), Result.andThen_ok, binOp_plain hpl]
    cases neg <;> simp [heq]
end
end Go.Proofs.Eng
