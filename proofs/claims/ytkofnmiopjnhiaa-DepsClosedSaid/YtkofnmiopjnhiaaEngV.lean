/- The engine, part V: code, soundly. -/
import Derived.Test.YtkofnmiopjnhiaaEngU
import Derived.LoopNIn
set_option linter.unusedVariables false
set_option linter.unusedSimpArgs false
namespace Go.Proofs.Eng
open Go Go.RowKit

def AX.ex : AX → Exit
  | .nrm => .normal
  | .ret => .ret
  | .exit id => .exit id

def RdOK (ι : Io) (rd ro : Option Nat) : Prop :=
  match rd with
  | none => ro = none
  | some l => ∃ p, ι.l[l]? = some p ∧ ro = some p.blk

/-- What a call of a function with a body comes to. -/
def Enters (P : Program) (K : Value → World → Prop) (f : FuncId) (cargs : Array Value) (w : World) : Prop :=
  (callFunc f cargs).run P w = .ok (.enter f cargs) w ∧ CallsIn Fence.wide 0 P f cargs w fun
    | .returned v, w'' => K v w''
    | _, _ => False

structure SOK (P : Program) (E : Env) : Prop extends EOK P E where
  ent : ∀ {f : FuncId} {args : List AV} {H : Hp} {v : AV} {h : Option Hp} {ι : Io} {w : World} {cargs : Array Value}, RelH (PCof P) ι H.l w → VRels ι (fzOf ι H.l w) args cargs.toList →
    E.ent f args H = some (v, h) → Enters P (Left P ι H.l w v (h.getD H).l) f cargs w
  loop : ∀ {rd ro : Option Nat} {c : Code} {b : AC} {Q : Exit → Act → World → Prop} {ι₀ : Io} {L₀ : HL} {w₀ : World} {ds : Nat} {τ τ' : List AV} {H H' : Hp} {a : Act} {w : World} {x : AX}, pCode P c = some b → RdOK ι₀ rd ro → ds ≤ w₀.heap.size →
    At P ι₀ L₀ w₀ ds τ H.l a w → E.loop rd b τ H = some (x, τ', H') → (∀ a' w', At P ι₀ L₀ w₀ ds τ' H'.l a' w' → Q x.ex a' w') → (Code.loop c).wpIn (Fr ro) 0 P Q a w
  range : ∀ {rd ro : Option Nat} {g : Operand} {ps : Array Tmp} {ca cb : Code} {asg body : AC} {Q : Exit → Act → World → Prop} {ι₀ : Io} {L₀ : HL} {w₀ : World} {ds : Nat} {τ τ' : List AV} {H H' : Hp} {a : Act} {w : World} {x : AX},
    pCode P ca = some asg → pCode P cb = some body → RdOK ι₀ rd ro → ds ≤ w₀.heap.size →
    At P ι₀ L₀ w₀ ds τ H.l a w → E.range rd (aeval τ ((pOpd g).getD (.c avU))) ps.toList asg body τ H = some (x, τ', H') → (∀ a' w', At P ι₀ L₀ w₀ ds τ' H'.l a' w' → Q x.ex a' w') → (Code.rangeFunc g ps ca cb).wpIn (Fr ro) 0 P Q a w

theorem execC_sound {P : Program} {E : Env} (hE : SOK P E) {rd ro : Option Nat} {ι₀ : Io} {L₀ : HL} {w₀ : World} {ds : Nat} (hrd : RdOK ι₀ rd ro) (hds : ds ≤ w₀.heap.size) :
    ∀ (c : Code) {ac : AC} {Q : Exit → Act → World → Prop} {τ τ' : List AV} {H H' : Hp} {a : Act} {w : World} {x : AX}, pCode P c = some ac → At P ι₀ L₀ w₀ ds τ H.l a w → execC E rd ac τ H = some (x, τ', H') →
    (∀ a' w', At P ι₀ L₀ w₀ ds τ' H'.l a' w' → Q x.ex a' w') → c.wpIn (Fr ro) 0 P Q a w
  | .skip, ac, Q, τ, τ', H, H', a, w, x, hp, hat, h, hQ => by
    simp only [pCode, Option.some.injEq] at hp; subst hp
    simp only [execC, Option.some.injEq, Prod.mk.injEq] at h; obtain ⟨rfl, rfl, rfl⟩ := h
    exact wpIn_skip (hQ a w hat)
  | .label l, ac, Q, τ, τ', H, H', a, w, x, hp, hat, h, hQ => by
    simp only [pCode, Option.some.injEq] at hp; subst hp
    simp only [execC, Option.some.injEq, Prod.mk.injEq] at h; obtain ⟨rfl, rfl, rfl⟩ := h
    exact wpIn_label (hQ a w hat)
  | .exit id, ac, Q, τ, τ', H, H', a, w, x, hp, hat, h, hQ => by
    simp only [pCode, Option.some.injEq] at hp; subst hp
    simp only [execC, Option.some.injEq, Prod.mk.injEq] at h; obtain ⟨rfl, rfl, rfl⟩ := h
    exact wpIn_exit (hQ a w hat)
  | .ret, ac, Q, τ, τ', H, H', a, w, x, hp, hat, h, hQ => by
    simp only [pCode, Option.some.injEq] at hp; subst hp
    simp only [execC, Option.some.injEq, Prod.mk.injEq] at h; obtain ⟨rfl, rfl, rfl⟩ := h
    exact wpIn_ret (hQ a w hat)
  | .region id ops draw, ac, Q, τ, τ', H, H', a, w, x, hp, hat, h, hQ => by
    simp only [pCode] at hp
    have hform : (∃ l, ac = .ops l) ∨ (∃ id l q df, ac = .dops id l q df) := by
      simp only [pRegion, Option.bind_eq_bind, Option.pure_def] at hp
      obtain ⟨l, hl, hp⟩ := Option.bind_eq_some_iff.1 hp
      split at hp
      · split at hp
        · simp only [Option.some.injEq] at hp; exact .inr ⟨_, _, _, _, hp.symm⟩
        · simp only [Option.some.injEq] at hp; exact .inl ⟨_, hp.symm⟩
      · simp only [Option.some.injEq] at hp; exact .inl ⟨_, hp.symm⟩
    rcases hform with ⟨l, rfl⟩ | ⟨id', l, q, df, rfl⟩
    · simp only [execC] at h
      obtain ⟨p, h1, h2⟩ := Option.map_eq_some_iff.1 h
      simp only [Prod.mk.injEq] at h2; obtain ⟨rfl, rfl, rfl⟩ := h2
      exact region_sound hE.toEOK hp hat (.inl ⟨l, rfl, h1⟩) hQ
    · simp only [execC] at h
      split at h
      · rename_i hdf
        obtain ⟨p, h1, h2⟩ := Option.map_eq_some_iff.1 h
        simp only [Prod.mk.injEq] at h2; obtain ⟨rfl, rfl, rfl⟩ := h2
        exact region_sound hE.toEOK hp hat (.inr ⟨id', l, q, df, rfl, hdf, h1⟩) hQ
      · simp at h
  | .seq c d, ac, Q, τ, τ', H, H', a, w, x, hp, hat, h, hQ => by
    simp only [pCode, Option.bind_eq_bind, Option.pure_def] at hp
    obtain ⟨ac1, h1, hp⟩ := Option.bind_eq_some_iff.1 hp
    obtain ⟨ac2, h2, hp⟩ := Option.bind_eq_some_iff.1 hp
    simp only [Option.some.injEq] at hp; subst hp
    simp only [execC] at h
    refine wpIn_seq ?_
    split at h
    · rename_i τ1 H1 he
      exact execC_sound hE hrd hds c h1 hat he fun a' w' hat' => execC_sound hE hrd hds d h2 hat' h hQ
    · rename_i r hn
      refine execC_sound hE hrd hds c h1 hat h fun a' w' hat' => ?_
      have := hQ a' w' hat'
      cases x with
      | nrm => exact absurd h (by intro e; exact hn _ _ e)
      | ret => exact this
      | exit i => exact this
  | .cond g c d, ac, Q, τ, τ', H, H', a, w, x, hp, hat, h, hQ => by
    simp only [pCode, Option.bind_eq_bind, Option.pure_def] at hp
    obtain ⟨ac1, h1, hp⟩ := Option.bind_eq_some_iff.1 hp
    obtain ⟨ac2, h2, hp⟩ := Option.bind_eq_some_iff.1 hp
    simp only [Option.some.injEq] at hp; subst hp
    simp only [execC] at h
    obtain ⟨ι, q1, q2, q3, q4⟩ := hat.ex
    cases hy : pOpd g with
    | none => rw [hy] at h; simp [aeval] at h
    | some y =>
    rw [hy] at h
    simp only [Option.getD_some] at h
    have hv := aeval_rel q3 hy
    split at h
    · rename_i hc
      rw [hc] at hv; simp only [VRel] at hv
      exact wpIn_cond_true hv (execC_sound hE hrd hds c h1 hat h hQ)
    · rename_i hc
      rw [hc] at hv; simp only [VRel] at hv
      exact wpIn_cond_false hv (execC_sound hE hrd hds d h2 hat h hQ)
    · simp at h
  | .block id c, ac, Q, τ, τ', H, H', a, w, x, hp, hat, h, hQ => by
    simp only [pCode] at hp
    obtain ⟨b, hb, rfl⟩ := Option.map_eq_some_iff.1 hp
    simp only [execC] at h
    refine wpIn_block ?_
    split at h
    · rename_i i t h' he
      split at h
      · rename_i hi
        simp only [Option.some.injEq, Prod.mk.injEq] at h; obtain ⟨rfl, rfl, rfl⟩ := h
        refine execC_sound hE hrd hds c hb hat he fun a' w' hat' => ?_
        simp only [AX.ex, Exit.inBlock, hi, if_true]
        exact hQ a' w' hat'
      · rename_i hi
        simp only [Option.some.injEq, Prod.mk.injEq] at h; obtain ⟨rfl, rfl, rfl⟩ := h
        refine execC_sound hE hrd hds c hb hat he fun a' w' hat' => ?_
        simp only [AX.ex, Exit.inBlock, hi, if_false]
        exact hQ a' w' hat'
    · rename_i r hn
      refine execC_sound hE hrd hds c hb hat h fun a' w' hat' => ?_
      have := hQ a' w' hat'
      cases x with
      | nrm => exact this
      | ret => exact this
      | exit i => exact absurd h (by intro e; exact hn _ _ _ e)
  | .loop c, ac, Q, τ, τ', H, H', a, w, x, hp, hat, h, hQ => by
    simp only [pCode] at hp
    obtain ⟨b, hb, rfl⟩ := Option.map_eq_some_iff.1 hp
    exact hE.loop hb hrd hds hat h hQ
  | .rangeFunc g ps ca cb, ac, Q, τ, τ', H, H', a, w, x, hp, hat, h, hQ => by
    simp only [pCode, Option.bind_eq_bind, Option.pure_def] at hp
    obtain ⟨ac1, h1, hp⟩ := Option.bind_eq_some_iff.1 hp
    obtain ⟨ac2, h2, hp⟩ := Option.bind_eq_some_iff.1 hp
    simp only [Option.some.injEq] at hp; subst hp
    simp only [execC] at h
    exact hE.range h1 h2 hrd hds hat h hQ
  | .scope c, ac, Q, τ, τ', H, H', a, w, x, hp, hat, h, hQ => by
    simp only [pCode, Option.some.injEq] at hp; subst hp
    simp only [execC, execOps, bad_none] at h
    simp at h
  | .goto c, ac, Q, τ, τ', H, H', a, w, x, hp, hat, h, hQ => by
    simp only [pCode, Option.some.injEq] at hp; subst hp
    simp only [execC, execOps, bad_none] at h
    simp at h
  | .refuse c, ac, Q, τ, τ', H, H', a, w, x, hp, hat, h, hQ => by
    simp only [pCode, Option.some.injEq] at hp; subst hp
    simp only [execC, execOps, bad_none] at h
    simp at h

end Go.Proofs.Eng
