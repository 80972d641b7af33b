/- The engine, part O: all operations but the calls of Go functions. -/
import Derived.Test.YtkofnmiopjnhiaaEngN
set_option linter.unusedVariables false
set_option linter.unusedSimpArgs false
namespace Go.Proofs.Eng
open Go Go.RowKit

section
variable {P : Program} {PC : Code → AC → Prop} {ι : Io} {w : World}

theorem hvN {o : Oper} {a : Act} {L L' : HL} {v : AV} (s : Sem Value) (e : execOp a.eval o = (do Pure.pure (.value (← s)))) (hok : OkS P PC ι L w s v L') : OkN P PC ι L w (execOp a.eval o) v L' := by
  rw [e]; exact hok.next

theorem sound_move (x : Operand) {o : Oper} {ao : AOp} {a : Act} {τ : List AV} {H : Hp} {v : AV} {H' : Option Hp} (hp : pOp P o.op = some ao) (hr : RelH PC ι H.l w)
    (ht : VRels ι (fzOf ι H.l w) τ a.tmps.toList) (h : aop τ H ao = some (v, H')) (hop : o.op = .move x) : OkN P PC ι H.l w (execOp a.eval o) v (H'.getD H).l := by
  rw [hop] at hp; simp only [pOp] at hp
  obtain ⟨y, hy, rfl⟩ := Option.map_eq_some_iff.1 hp
  simp only [aop, Option.some.injEq, Prod.mk.injEq] at h
  obtain ⟨rfl, rfl⟩ := h
  exact hvN (Pure.pure (a.eval x)) (by simp only [execOp, hop]; rfl) (OkS.of hr rfl (aeval_rel ht hy))

theorem sound_assign (x : Operand) {o : Oper} {ao : AOp} {a : Act} {τ : List AV} {H : Hp} {v : AV} {H' : Option Hp} (hp : pOp P o.op = some ao) (hr : RelH PC ι H.l w)
    (ht : VRels ι (fzOf ι H.l w) τ a.tmps.toList) (h : aop τ H ao = some (v, H')) (hop : o.op = .assign x) : OkN P PC ι H.l w (execOp a.eval o) v (H'.getD H).l := by
  rw [hop] at hp; simp only [pOp] at hp
  obtain ⟨y, hy, rfl⟩ := Option.map_eq_some_iff.1 hp
  simp only [aop, Option.some.injEq, Prod.mk.injEq] at h
  obtain ⟨rfl, rfl⟩ := h
  exact hvN (Pure.pure (a.eval x)) (by simp only [execOp, hop]; rfl) (OkS.of hr rfl (aeval_rel ht hy))

theorem sound_pick (c x y : Operand) {o : Oper} {ao : AOp} {a : Act} {τ : List AV} {H : Hp} {v : AV} {H' : Option Hp} (hp : pOp P o.op = some ao) (hr : RelH PC ι H.l w)
    (ht : VRels ι (fzOf ι H.l w) τ a.tmps.toList) (h : aop τ H ao = some (v, H')) (hop : o.op = .pick c x y) : OkN P PC ι H.l w (execOp a.eval o) v (H'.getD H).l := by
  rw [hop] at hp; simp only [pOp, Option.bind_eq_bind, Option.pure_def] at hp
  obtain ⟨yc, hc, hp⟩ := Option.bind_eq_some_iff.1 hp
  obtain ⟨yx, hx, hp⟩ := Option.bind_eq_some_iff.1 hp
  obtain ⟨yy, hy, hp⟩ := Option.bind_eq_some_iff.1 hp
  simp only [Option.some.injEq] at hp; subst hp
  simp only [aop] at h
  have hvc := aeval_rel ht hc
  split at h
  · rename_i t htc
    rw [htc] at hvc
    simp only [VRel] at hvc
    simp only [Option.some.injEq, Prod.mk.injEq] at h
    obtain ⟨rfl, rfl⟩ := h
    refine hvN (Pure.pure (if t then a.eval x else a.eval y)) ?_ (OkS.of hr rfl ?_)
    · simp only [execOp, hop, hvc, asBool]; cases t <;> rfl
    · cases t
      · simpa using aeval_rel ht hy
      · simpa using aeval_rel ht hx
  · simp at h

theorem sound_box (t : TypeId) (x : Operand) {o : Oper} {ao : AOp} {a : Act} {τ : List AV} {H : Hp} {v : AV} {H' : Option Hp} (hp : pOp P o.op = some ao) (hr : RelH PC ι H.l w)
    (ht : VRels ι (fzOf ι H.l w) τ a.tmps.toList) (h : aop τ H ao = some (v, H')) (hop : o.op = .box t x) : OkN P PC ι H.l w (execOp a.eval o) v (H'.getD H).l := by
  rw [hop] at hp; simp only [pOp, Option.bind_eq_bind, Option.pure_def] at hp
  obtain ⟨y, hy, hp⟩ := Option.bind_eq_some_iff.1 hp
  simp only [Option.some.injEq] at hp; subst hp
  simp only [aop] at h
  split at h
  · rename_i hg
    simp only [Option.some.injEq, Prod.mk.injEq] at h
    obtain ⟨rfl, rfl⟩ := h
    exact hvN (Instr.box t (a.eval x)) (by simp only [execOp, hop]) (box_sound hr (aeval_rel ht hy) hg)
  · simp at h

theorem sound_alloc (t : TypeId) {o : Oper} {ao : AOp} {a : Act} {τ : List AV} {H : Hp} {v : AV} {H' : Option Hp} (hp : pOp P o.op = some ao) (hr : RelH PC ι H.l w)
    (ht : VRels ι (fzOf ι H.l w) τ a.tmps.toList) (h : aop τ H ao = some (v, H')) (hop : o.op = .alloc t) : OkN P PC ι H.l w (execOp a.eval o) v (H'.getD H).l := by
  rw [hop] at hp; simp only [pOp, Option.bind_eq_bind, Option.pure_def] at hp
  obtain ⟨z, hz, hp⟩ := Option.bind_eq_some_iff.1 hp
  simp only [Option.some.injEq] at hp; subst hp
  simp only [aop] at h
  split at h
  · rename_i hg
    simp only [Option.some.injEq, Prod.mk.injEq] at h
    obtain ⟨rfl, rfl⟩ := h
    refine hvN (Instr.alloc t true (.tuple #[])) (by simp only [execOp, hop]) ?_
    obtain ⟨cv, w', ι', q1, q2, q3, q4⟩ := box_sound (P := P) (t := t) hr (VRel_ofV z) hg
    refine ⟨cv, w', ι', ?_, q2, q3, q4⟩
    rw [← q1]
    simp only [Instr.alloc, Sem.run_bind, run_zero' hz, Result.andThen_ok]
  · simp at h

theorem sound_build (t : TypeId) (ps : Array (Nat × Operand)) {o : Oper} {ao : AOp} {a : Act} {τ : List AV} {H : Hp} {v : AV} {H' : Option Hp} (hp : pOp P o.op = some ao) (hr : RelH PC ι H.l w)
    (ht : VRels ι (fzOf ι H.l w) τ a.tmps.toList) (h : aop τ H ao = some (v, H')) (hop : o.op = .build t ps) : OkN P PC ι H.l w (execOp a.eval o) v (H'.getD H).l := by
  rw [hop] at hp; simp only [pOp, Option.bind_eq_bind, Option.pure_def] at hp
  obtain ⟨z, hz, hp⟩ := Option.bind_eq_some_iff.1 hp
  split at hp
  · rename_i fs hu
    obtain ⟨places, hpl, hp⟩ := Option.bind_eq_some_iff.1 hp
    obtain ⟨q, hq, hp⟩ := Option.bind_eq_some_iff.1 hp
    simp only [Option.some.injEq] at hp; subst hp
    simp only [aop] at h
    obtain ⟨cs, hcs, h⟩ := Option.map_eq_some_iff.1 h
    simp only [Prod.mk.injEq] at h
    obtain ⟨rfl, rfl⟩ := h
    exact hvN (Instr.build t (ps.map fun (i, x) => (i, a.eval x))) (by simp only [execOp, hop]) (build_sound hr ht hu hz hpl hq hcs)
  · rename_i n e hu
    obtain ⟨s, hs, hp⟩ := Option.bind_eq_some_iff.1 hp
    obtain ⟨q, hq, hp⟩ := Option.bind_eq_some_iff.1 hp
    simp only [Option.some.injEq] at hp; subst hp
    simp only [aop] at h
    obtain ⟨cs, hcs, h⟩ := Option.map_eq_some_iff.1 h
    simp only [Prod.mk.injEq] at h
    obtain ⟨rfl, rfl⟩ := h
    obtain ⟨cc, h1, h2⟩ := fill_sound ht (fun i => some (i * s, s)) ps.toList q _ z.cells cs hq (VRels_lits _) hcs
    refine hvN (Instr.build t (ps.map fun (i, x) => (i, a.eval x))) (by simp only [execOp, hop]) (OkS.of (cv := .agg cc) hr ?_ (by simp only [VRel]; exact ⟨cc, rfl, h2⟩))
    have h1' : Instr.fill (fun i => some (i * s, s)) z.cells (ps.map fun (i, x) => (i, a.eval x)).toList = some cc := by rw [map_parts]; exact h1
    simp only [Instr.build, Sem.run_bind, run_zero' hz, Result.andThen_ok, run_underlying' hu, run_sizeOf' hs, h1', Sem.run_pure]
  · simp at hp

theorem sound_buildSlice (t : TypeId) (len : Nat) (ps : Array (Nat × Operand)) {o : Oper} {ao : AOp} {a : Act} {τ : List AV} {H : Hp} {v : AV} {H' : Option Hp} (hp : pOp P o.op = some ao) (hr : RelH PC ι H.l w)
    (ht : VRels ι (fzOf ι H.l w) τ a.tmps.toList) (h : aop τ H ao = some (v, H')) (hop : o.op = .buildSlice t len ps) : OkN P PC ι H.l w (execOp a.eval o) v (H'.getD H).l := by
  rw [hop] at hp; simp only [pOp, Option.bind_eq_bind, Option.pure_def] at hp
  split at hp
  · rename_i e hu
    obtain ⟨s, hs, hp⟩ := Option.bind_eq_some_iff.1 hp
    obtain ⟨z, hz, hp⟩ := Option.bind_eq_some_iff.1 hp
    split at hp
    · simp at hp
    · rename_i hc
      obtain ⟨lay, hlay, hp⟩ := Option.bind_eq_some_iff.1 hp
      obtain ⟨q, hq, hp⟩ := Option.bind_eq_some_iff.1 hp
      simp only [Option.some.injEq] at hp; subst hp
      simp only [aop] at h
      obtain ⟨cs, hcs, h⟩ := Option.bind_eq_some_iff.1 h
      split at h
      · rename_i hok
        simp only [Option.some.injEq, Prod.mk.injEq] at h
        obtain ⟨rfl, rfl⟩ := h
        simp only [not_or, Decidable.not_not] at hc
        have k0 : OkS P PC ι H.l w (Instr.buildSlice t len (ps.map fun (i, x) => (i, a.eval x))) (.ra s H.l.length 0 len) (halloc H (.arr s (chunk s lay len cs) e)).l := by
          have k1 := hc.1
          have k2 := hc.2.1
          have k3 := hc.2.2
          refine bslice_sound hr ht hu hs hz k1 k2 k3 hq ?_ hok
          exact hcs
        exact hvN _ (by simp only [execOp, hop]) k0
      · simp at h
  · simp at hp

theorem sound_load (t : TypeId) (x : Operand) {o : Oper} {ao : AOp} {a : Act} {τ : List AV} {H : Hp} {v : AV} {H' : Option Hp} (hp : pOp P o.op = some ao) (hr : RelH PC ι H.l w)
    (ht : VRels ι (fzOf ι H.l w) τ a.tmps.toList) (h : aop τ H ao = some (v, H')) (hop : o.op = .load t x) : OkN P PC ι H.l w (execOp a.eval o) v (H'.getD H).l := by
  rw [hop] at hp; simp only [pOp, Option.bind_eq_bind, Option.pure_def] at hp
  obtain ⟨n, hn, hp⟩ := Option.bind_eq_some_iff.1 hp
  obtain ⟨y, hy, hp⟩ := Option.bind_eq_some_iff.1 hp
  simp only [Option.some.injEq] at hp; subst hp
  simp only [aop] at h
  obtain ⟨u, hu, h⟩ := Option.map_eq_some_iff.1 h
  simp only [Prod.mk.injEq] at h
  obtain ⟨rfl, rfl⟩ := h
  exact hvN (Instr.loadAt t (a.eval x)) (by simp only [execOp, hop]) (OkS.of' hr (aload_sound hr hn (aeval_rel ht hy) hu))

theorem sound_store (t : TypeId) (x y : Operand) {o : Oper} {ao : AOp} {a : Act} {τ : List AV} {H : Hp} {v : AV} {H' : Option Hp} (hp : pOp P o.op = some ao) (hr : RelH PC ι H.l w)
    (ht : VRels ι (fzOf ι H.l w) τ a.tmps.toList) (h : aop τ H ao = some (v, H')) (hop : o.op = .store t x y) : OkN P PC ι H.l w (execOp a.eval o) v (H'.getD H).l := by
  rw [hop] at hp; simp only [pOp, Option.bind_eq_bind, Option.pure_def] at hp
  obtain ⟨n, hn, hp⟩ := Option.bind_eq_some_iff.1 hp
  obtain ⟨yx, hx, hp⟩ := Option.bind_eq_some_iff.1 hp
  obtain ⟨yy, hy, hp⟩ := Option.bind_eq_some_iff.1 hp
  simp only [Option.some.injEq] at hp; subst hp
  simp only [aop] at h
  obtain ⟨u, hu, h⟩ := Option.map_eq_some_iff.1 h
  simp only [Prod.mk.injEq] at h
  obtain ⟨rfl, rfl⟩ := h
  obtain ⟨w', ι', q1, q2, q3⟩ := astore_sound (P := P) hr hn (aeval_rel ht hx) (aeval_rel ht hy) hu
  have : execOp a.eval o = (do Instr.storeAt t (a.eval x) (a.eval y); Pure.pure .skip) := by simp only [execOp, hop]
  rw [this]
  exact OkN.unit q1 q2 q3

theorem sound_nilCheck (x : Operand) {o : Oper} {ao : AOp} {a : Act} {τ : List AV} {H : Hp} {v : AV} {H' : Option Hp} (hp : pOp P o.op = some ao) (hr : RelH PC ι H.l w)
    (ht : VRels ι (fzOf ι H.l w) τ a.tmps.toList) (h : aop τ H ao = some (v, H')) (hop : o.op = .nilCheck x) : OkN P PC ι H.l w (execOp a.eval o) v (H'.getD H).l := by
  rw [hop] at hp; simp only [pOp] at hp
  obtain ⟨y, hy, rfl⟩ := Option.map_eq_some_iff.1 hp
  simp only [aop] at h
  split at h
  · rename_i hn
    simp only [Option.some.injEq, Prod.mk.injEq] at h
    obtain ⟨rfl, rfl⟩ := h
    have hvy := aeval_rel ht hy
    refine ⟨a.eval x, w, ι, .value (a.eval x), ?_, .inl rfl, Stp.refl _ _ _, hr, hvy⟩
    simp only [execOp, hop]
    generalize aeval τ y = z at hn hvy
    cases z <;> simp only [AV.isRef, Bool.false_eq_true] at hn <;> simp only [VRel] at hvy
    · obtain ⟨p, _, e⟩ := hvy; rw [e]; rfl
    · obtain ⟨p, _, e⟩ := hvy; rw [e]; rfl
    · obtain ⟨p, vs, e, _⟩ := hvy; rw [e]; rfl
    · obtain ⟨p, q, e, _⟩ := hvy; rw [e]; rfl
    · obtain ⟨p, _, e⟩ := hvy; rw [e]; rfl
  · simp at h

theorem sound_binOp (op : BinOp) (t : TypeId) (x y : Operand) (yt : TypeId) {o : Oper} {ao : AOp} {a : Act} {τ : List AV} {H : Hp} {v : AV} {H' : Option Hp} (hp : pOp P o.op = some ao) (hr : RelH PC ι H.l w)
    (ht : VRels ι (fzOf ι H.l w) τ a.tmps.toList) (h : aop τ H ao = some (v, H')) (hop : o.op = .binOp op t x y yt) : OkN P PC ι H.l w (execOp a.eval o) v (H'.getD H).l := by
  rw [hop] at hp
  by_cases heq : op = .eql ∨ op = .neq
  · obtain ⟨neg, rfl⟩ : ∃ neg : Bool, op = if neg then .neq else .eql := by
      rcases heq with rfl | rfl
      · exact ⟨false, rfl⟩
      · exact ⟨true, rfl⟩
    have hp' : (do pure (.eq neg (← pEq P 16 t) (← pOpd x) (← pOpd y)) : Option AOp) = some ao := by
      cases neg <;> simpa only [pOp, if_true, if_false, Bool.false_eq_true] using hp
    simp only [Option.bind_eq_bind, Option.pure_def] at hp'
    obtain ⟨d, hd, hp'⟩ := Option.bind_eq_some_iff.1 hp'
    obtain ⟨yx, hx, hp'⟩ := Option.bind_eq_some_iff.1 hp'
    obtain ⟨yy, hy, hp'⟩ := Option.bind_eq_some_iff.1 hp'
    simp only [Option.some.injEq] at hp'; subst hp'
    simp only [aop] at h
    obtain ⟨b, hb, h⟩ := Option.map_eq_some_iff.1 h
    simp only [Prod.mk.injEq] at h
    obtain ⟨rfl, rfl⟩ := h
    exact hvN (do eqGuard (if neg then .neq else .eql) t x y (a.eval x) (a.eval y); binOp (if neg then .neq else .eql) t (a.eval x) (a.eval y)) (by simp only [execOp, hop])
      (OkS.of hr (eq_sound hd (aeval_rel ht hx) (aeval_rel ht hy) hb) (by simp only [VRel]))
  · have hp' : (do pure (.bin op (← pOpd x) (← pOpd y)) : Option AOp) = some ao := by
      cases op <;> first
        | (simp at heq; done)
        | simpa only [pOp] using hp
    simp only [Option.bind_eq_bind, Option.pure_def] at hp'
    obtain ⟨yx, hx, hp'⟩ := Option.bind_eq_some_iff.1 hp'
    obtain ⟨yy, hy, hp'⟩ := Option.bind_eq_some_iff.1 hp'
    simp only [Option.some.injEq] at hp'; subst hp'
    simp only [aop] at h
    obtain ⟨u, hu, h⟩ := Option.map_eq_some_iff.1 h
    simp only [Prod.mk.injEq] at h
    obtain ⟨rfl, rfl⟩ := h
    obtain ⟨cv, q1, rfl⟩ := run_abin (P := P) (w := w) (t := t) (aeval_rel ht hx) (aeval_rel ht hy) hu
    have hg : ∀ p q, eqGuard op t x y p q = Pure.pure () := by
      intro p q
      cases op <;> first
        | (simp at heq; done)
        | rfl
    refine hvN (do eqGuard op t x y (a.eval x) (a.eval y); binOp op t (a.eval x) (a.eval y)) (by simp only [execOp, hop]) (OkS.of hr (cv := cv) ?_ (by simp only [VRel]))
    simp only [hg, Sem.run_bind, Sem.run_pure, Result.andThen_ok, q1]

theorem sound_unOp (op : UnOp) (t : TypeId) (x : Operand) {o : Oper} {ao : AOp} {a : Act} {τ : List AV} {H : Hp} {v : AV} {H' : Option Hp} (hp : pOp P o.op = some ao) (hr : RelH PC ι H.l w)
    (ht : VRels ι (fzOf ι H.l w) τ a.tmps.toList) (h : aop τ H ao = some (v, H')) (hop : o.op = .unOp op t x) : OkN P PC ι H.l w (execOp a.eval o) v (H'.getD H).l := by
  rw [hop] at hp; simp only [pOp, Option.bind_eq_bind, Option.pure_def] at hp
  obtain ⟨yx, hx, hp⟩ := Option.bind_eq_some_iff.1 hp
  simp only [Option.some.injEq] at hp; subst hp
  simp only [aop] at h
  obtain ⟨u, hu, h⟩ := Option.map_eq_some_iff.1 h
  simp only [Prod.mk.injEq] at h
  obtain ⟨rfl, rfl⟩ := h
  obtain ⟨cv, q1, rfl⟩ := run_aun (P := P) (w := w) (aeval_rel ht hx) hu
  exact hvN (Op.unary op (a.eval x)) (by simp only [execOp, hop]) (OkS.of hr q1 (by simp only [VRel]))

end
end Go.Proofs.Eng
