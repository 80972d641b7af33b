/- The engine, part X: loops over functions; the environment is sound. -/
import Derived.Test.YtkofnmiopjnhiaaEngW
set_option linter.unusedVariables false
set_option linter.unusedSimpArgs false
namespace Go.Proofs.Eng
open Go Go.RowKit

section
variable {P : Program} {ι : Io} {w : World}

/-- A block that nobody owns is laid. -/
theorem RelH.bare {PC : Code → AC → Prop} {L : HL} (h : RelH PC ι L w) (o : Obj) : RelH PC ι L (w.alloc o) ∧ Stp ι L w ι L (w.alloc o) ∧ ¬ Owned ι L w.heap.size := by
  have hst : Stp ι L w ι L (w.alloc o) := ⟨List.prefix_refl _, rfl, rfl, rfl, by simp, fun k hk hn => ⟨hn, alloc_heap_lt w o hk⟩, fun _ _ => Iff.rfl⟩
  exact ⟨⟨h.len, fun i oi p h1 h2 => (h.obj i oi p h1 h2).move hst.pre hst.fz (alloc_heap_lt w o (h.obj i oi p h1 h2).lt), h.inj, (h.xs_of hst rfl).1, (h.xs_of hst rfl).2⟩, hst, fun ho => Nat.lt_irrefl _ (h.lt ho)⟩

theorem rd_alive {H : Hp} {rd ro : Option Nat} (hr : RelH (PCof P) ι H.l w) (hrd : RdOK ι rd ro) (h : rdAlive H rd = true) : ro = none ∨ ∃ l r, ro = some l ∧ w.heap[l]? = some (.loop r) := by
  cases rd with
  | none => exact .inl hrd
  | some l =>
    obtain ⟨p, hp, rfl⟩ := hrd
    unfold rdAlive at h
    simp only [] at h
    split at h
    · rename_i ho
      obtain ⟨r, h1, _⟩ := loop_at hr hp ho
      exact .inr ⟨_, r, rfl, h1⟩
    · simp at h

theorem RdOK.mono {ι' : Io} {rd ro : Option Nat} (h : ι.Le ι') (k : RdOK ι rd ro) : RdOK ι' rd ro := by
  cases rd with
  | none => exact k
  | some l => obtain ⟨p, hp, e⟩ := k; exact ⟨p, prefix_get h hp, e⟩

/-- Entering: the marks' block, if it is an outermost loop's, and the loop's own. -/
theorem run_enter {H : Hp} {rd ro : Option Nat} {τ : List AV} {a : Act} {ps : Array Tmp} {ca cb : Code} {asg body : AC} {base : Nat} (fn : FuncId) (hr : RelH (PCof P) ι H.l w) (hrd : RdOK ι rd ro) (hal : rdAlive H rd = true)
    (ht : VRels ι (fzOf ι H.l w) τ a.tmps.toList) (h1 : pCode P ca = some asg) (h2 : pCode P cb = some body) (hb : base ≤ w.heap.size) (hdf : DfOK base ι H.l w a.defers) :
    ∃ (l : Nat) (mark : List Deferred) (w1 : World) (p : Pl), (Instr.enterLoop fn a.tmps ps ca cb ro).run P w = .ok (l, mark) w1 ∧ p.blk = l ∧
      RelH (PCof P) (ι.add p) (H.l ++ [some (.loop .ready .nrm τ ps.toList asg body)]) w1 ∧ Stp ι H.l w (ι.add p) (H.l ++ [some (.loop .ready .nrm τ ps.toList asg body)]) w1 ∧ DfOK base (ι.add p) (H.l ++ [some (.loop .ready .nrm τ ps.toList asg body)]) w1 (mark ++ a.defers) := by
  rcases rd_alive hr hrd hal with rfl | ⟨l0, r0, rfl, hl0⟩
  · obtain ⟨b1, b2, b3⟩ := hr.bare (.deferred (some []))
    let w' := w.alloc (.deferred (some []))
    let lp : Loop := { state := .ready, pending := none, fn, tmps := a.tmps, params := ps, assign := ca, body := cb, defers := w.heap.size }
    have hal := b1.alloc (.loop lp) ⟨w'.heap.size, 0, 0, 0⟩ (.loop .ready .nrm τ ps.toList asg body) rfl
      ⟨lp, alloc_heap_new _ _, rfl, rfl, VRels.mono (List.prefix_append _ _) (by
        refine FzLe.trans b2.fz ?_
        refine ⟨fun k c t f e => ?_⟩
        rw [fzOf_some'] at e ⊢
        have hk := (Array.getElem?_eq_some_iff.1 e.2).1
        refine ⟨⟨?_, e.1.2⟩, (alloc_heap_lt _ _ hk).trans e.2⟩
        rw [owned_alloc b1.len]
        rintro (h | h)
        · exact e.1.1 h
        · exact absurd h (Nat.ne_of_gt hk)) _ _ ht, rfl, h1, h2⟩
    refine ⟨w'.heap.size, [{ target := .collected w.heap.size, args := #[] }], w'.alloc (.loop lp), ⟨w'.heap.size, 0, 0, 0⟩, ?_, rfl, hal.1, b2.trans hal.2, ?_⟩
    · simp only [Instr.enterLoop, Sem.run_bind, run_newObj, Result.andThen_ok, Sem.run_pure]
      rfl
    · have hd1 : DfOK base ι H.l w' ({ target := .collected w.heap.size, args := #[] } :: a.defers) := by
        obtain ⟨Ds, e, hn, hD⟩ := hdf
        refine ⟨w.heap.size :: Ds, by simp [e], ?_, ?_⟩
        · rw [List.nodup_cons]
          refine ⟨fun hm => ?_, hn⟩
          have := (Array.getElem?_eq_some_iff.1 (hD _ hm).2.1).1
          exact Nat.lt_irrefl _ this
        · intro D hm
          rcases List.mem_cons.1 hm with rfl | hm
          · exact ⟨hb, alloc_heap_new _ _, b3⟩
          · obtain ⟨g1, g2, g3⟩ := hD D hm
            have := b2.frame D (Array.getElem?_eq_some_iff.1 g2).1 g3
            exact ⟨g1, this.2.trans g2, this.1⟩
      exact hd1.step hal.2
  · let lp : Loop := { state := .ready, pending := none, fn, tmps := a.tmps, params := ps, assign := ca, body := cb, defers := r0.defers }
    have hal := hr.alloc (.loop lp) ⟨w.heap.size, 0, 0, 0⟩ (.loop .ready .nrm τ ps.toList asg body) rfl
      ⟨lp, alloc_heap_new _ _, rfl, rfl, VRels.mono (List.prefix_append _ _) (by
        refine ⟨fun k c t f e => ?_⟩
        rw [fzOf_some'] at e ⊢
        have hk := (Array.getElem?_eq_some_iff.1 e.2).1
        refine ⟨⟨?_, e.1.2⟩, (alloc_heap_lt _ _ hk).trans e.2⟩
        rw [owned_alloc hr.len]
        rintro (h | h)
        · exact e.1.1 h
        · exact absurd h (Nat.ne_of_gt hk)) _ _ ht, rfl, h1, h2⟩
    refine ⟨w.heap.size, [], w.alloc (.loop lp), ⟨w.heap.size, 0, 0, 0⟩, ?_, rfl, hal.1, hal.2, hdf.step hal.2⟩
    simp only [Instr.enterLoop, Sem.run_bind, run_getLoop hl0, run_newObj, Result.andThen_ok, Sem.run_pure]
    rfl

theorem range_sound {E : Env} (hE : SOK P E) {rd ro : Option Nat} {g : Operand} {ps : Array Tmp} {ca cb : Code} {asg body : AC} {Q : Exit → Act → World → Prop} {ι₀ : Io} {L₀ : HL} {w₀ : World} {ds : Nat} {τ τ' : List AV} {H H' : Hp} {a : Act} {x : AX}
    (h1 : pCode P ca = some asg) (h2 : pCode P cb = some body) (hrd : RdOK ι₀ rd ro) (hds : ds ≤ w₀.heap.size) (hat : At P ι₀ L₀ w₀ ds τ H.l a w) (e : runR E.ent rd (aeval τ ((pOpd g).getD (.c avU))) ps.toList asg body τ H = some (x, τ', H'))
    (hQ : ∀ a' w', At P ι₀ L₀ w₀ ds τ' H'.l a' w' → Q x.ex a' w') : (Code.rangeFunc g ps ca cb).wpIn (Fr ro) 0 P Q a w := by
  obtain ⟨ι, q1, q2, q3, q4⟩ := hat.ex
  unfold runR at e
  split at e
  · rename_i hal
    split at e
    · rename_i gf fs cs hf
      have hv : VRel ι (fzOf ι H.l w) (aeval τ ((pOpd g).getD (.c avU))) (a.eval g) := by
        cases hy : pOpd g with
        | none => rw [hy] at hf; simp [aeval] at hf
        | some y => exact aeval_rel q3 hy
      rw [hf] at hv
      simp only [VRel] at hv
      obtain ⟨as, bs, hg, v1, v2⟩ := hv
      simp only [] at e
      split at e
      · rename_i u h hent
        split at e
        · rename_i st pe t' p' a' b' ho
          split at e
          · simp at e
          · rename_i hst
            simp only [Option.some.injEq, Prod.mk.injEq] at e
            obtain ⟨rfl, rfl, rfl⟩ := e
            refine wpIn_rangeFunc fun fn _ => ?_
            obtain ⟨l, mark, w1, p, r1, r2, r3, r4, r5⟩ := run_enter (ps := ps) fn q2 (hrd.mono q1.pre) hal q3 h1 h2 (Nat.le_trans hds q1.size) q4
            have hpl : (ι.add p).l[H.l.length]? = some p := by rw [← q2.len]; simp
            have hargs : VRels (ι.add p) (fzOf (ι.add p) (H.l ++ [some (.loop .ready .nrm τ ps.toList asg body)]) w1) (fs ++ [.yld H.l.length] ++ cs) (as ++ #[Value.func (.yield l) #[] #[]] ++ bs).toList := by
              simp only [Array.toList_append]
              refine (VRels.append (r4.vs v1) ?_).append (r4.vs v2)
              simp only [VRels_cons, VRels_nil, VRel, and_true]
              exact ⟨p, hpl, by rw [r2]⟩
            obtain ⟨e1, e2⟩ := hE.ent (H := halloc H (.loop .ready .nrm τ ps.toList asg body)) r3 hargs hent
            refine ⟨l, mark, w1, { target := .fn (.func gf) bs, args := as ++ #[Value.func (.yield l) #[] #[]] }, w1, gf, as ++ #[Value.func (.yield l) #[] #[]] ++ bs, w1, r1, ?_, fun _ _ => trivial, ?_, fun hh => by simp [Fence.wide] at hh, ?_⟩
            · simp only [resolve, hg, Deferred.ofValue, Sem.run_pure]
              simp [Act.eval]
            · simp only [invoke]; exact e1
            · have e2' : CallsIn (Fr ro) (0 - 1) P gf (as ++ #[Value.func (.yield l) #[] #[]] ++ bs) w1 _ := e2
              refine CallsIn.mono e2' fun en w3 hen => ?_
              cases en with
              | panicked c => exact hen.elim
              | outgrown => exact hen.elim
              | returned cv =>
                obtain ⟨ι2, s1, s2, s3⟩ := hen
                have hp2 : ι2.l[H.l.length]? = some p := prefix_get s1.pre hpl
                obtain ⟨rl, c1, c2, c3, c4⟩ := loop_at s2 hp2 ho
                rw [r2] at c1
                have hend : (Instr.endLoop l).run P w3 = .ok pe.code (setObjW w3 l (.loop { rl with state := .exhausted })) := by
                  simp only [Instr.endLoop, Sem.run_bind, run_getLoop c1, run_setLoop c1, Result.andThen_ok]
                  rw [c2]
                  have : (st == LoopState.busy) = false := by simpa using hst
                  simp only [this, Bool.false_eq_true, if_false, Sem.run_pure, Sem.run_bind, Result.andThen_ok, run_setLoop c1, c3]
                refine ⟨pe.code, _, hend, ?_⟩
                have hse := loop_set (st' := .exhausted) (pe' := pe) s2 hp2 ho (by rw [r2]; exact c1)
                rw [r2] at hse
                have hpe : ({ rl with state := .exhausted, pending := pe.code } : Loop) = { rl with state := .exhausted } := by rw [← c3]
                rw [hpe] at hse
                obtain ⟨k1, k2⟩ := RelH.kill hse.1 H.l.length
                rw [List.set_set] at k1 k2
                have hst2 : Stp ι H.l w ι2 ((h.getD (halloc H (.loop .ready .nrm τ ps.toList asg body))).l.set H.l.length none) (setObjW w3 l (.loop { rl with state := .exhausted })) := (r4.trans s1).trans (hse.2.trans k2)
                have hat' : At P ι₀ L₀ w₀ ds τ (hset (h.getD (halloc H (.loop .ready .nrm τ ps.toList asg body))) H.l.length none).l { a with defers := mark ++ a.defers } (setObjW w3 l (.loop { rl with state := .exhausted })) :=
                  ⟨ι2, q1.trans hst2, k1, hst2.vs q3, r5.step (s1.trans (hse.2.trans k2))⟩
                cases pe with
                | nrm => exact hQ _ _ hat'
                | ret => exact wpIn_ret (hQ _ _ hat')
                | exit id => exact wpIn_exit (hQ _ _ hat')
        · simp at e
      · simp at e
    · simp at e
  · simp at e


/-- Summaries that hold. -/
structure GOK (P : Program) (Γ : Sums) : Prop where
  le : ∀ (f : FuncId) (args : List AV) (H : Hp) (v : AV) (h : Option Hp), Γ f args H = some (v, h) → Le? H h
  call : ∀ {f : FuncId} {args : List AV} {H : Hp} {v : AV} {h : Option Hp} {ι : Io} {w : World} {cargs : Array Value}, RelH (PCof P) ι H.l w → VRels ι (fzOf ι H.l w) args cargs.toList →
    Γ f args H = some (v, h) → Upon P (Left P ι H.l w v (h.getD H).l) ((callFunc f cargs).run P w)

theorem Enters.upon {K : Value → World → Prop} {f : FuncId} {cargs : Array Value} (h : Enters P K f cargs w) : Upon P K ((callFunc f cargs).run P w) := by
  rw [h.1]; exact h.2

/-- **The engine is sound.** -/
theorem env_sound {Γ : Sums} {A : Tab} (hΓ : GOK P Γ) (hT : TOK P A) : ∀ n, SOK P (env Γ A n)
  | 0 => by
    refine ⟨⟨(env_le (Γ := Γ) (A := A) hΓ.le 0).toCLe, ?_, ?_⟩, ?_, ?_, ?_⟩
    · intro f args H v h ι w cargs _ _ e; simp [env] at e
    · intro l args H v h ι w cargs p _ _ _ e; simp [env] at e
    · intro f args H v h ι w cargs _ _ e; simp [env] at e
    · intro rd ro c b Q ι₀ L₀ w₀ ds τ τ' H H' a w x _ _ _ _ e _; simp [env] at e
    · intro rd ro g ps ca cb asg body Q ι₀ L₀ w₀ ds τ τ' H H' a w x _ _ _ _ _ e _; simp [env] at e
  | n + 1 => by
    have ih := env_sound hΓ hT n
    have il := env_le (Γ := Γ) (A := A) hΓ.le n
    have hent : ∀ {f : FuncId} {args : List AV} {H : Hp} {v : AV} {h : Option Hp} {ι : Io} {w : World} {cargs : Array Value}, RelH (PCof P) ι H.l w → VRels ι (fzOf ι H.l w) args cargs.toList →
        (env Γ A (n + 1)).ent f args H = some (v, h) → Enters P (Left P ι H.l w v (h.getD H).l) f cargs w := by
      intro f args H v h ι w cargs hr ha e
      simp only [env] at e
      split at e
      · rename_i af hA
        exact ent_sound hT ih il hA hr ha e
      · simp at e
    refine ⟨⟨(env_le (Γ := Γ) (A := A) hΓ.le (n + 1)).toCLe, ?_, ?_⟩, hent, ?_, ?_⟩
    · intro f args H v h ι w cargs hr ha e
      simp only [env] at e
      split at e
      · rename_i r hg
        rw [e] at hg
        exact hΓ.call hr ha hg
      · exact (hent hr ha (by simpa only [env] using e)).upon
    · intro l args H v h ι w cargs p hp hr ha e
      simp only [env] at e
      exact yld_sound ih hp hr ha e
    · intro rd ro c b Q ι₀ L₀ w₀ ds τ τ' H H' a w x hc hrd hds hat e hQ
      refine wpIn_loop_rounds (n + 1) ?_
      have key : ∀ k, k ≤ n + 1 → ∀ {τ : List AV} {H : Hp} {a : Act} {w : World}, At P ι₀ L₀ w₀ ds τ H.l a w → (env Γ A k).loop rd b τ H = some (x, τ', H') → Code.roundsIn (Fr ro) 0 P c Q k a w := by
        intro k
        induction k with
        | zero => intro _ τ H a w _ e; simp [env] at e
        | succ k ihk =>
          intro hk τ H a w hat e
          rw [roundsIn_succ]
          simp only [env] at e
          have ihs : SOK P (env Γ A k) := by
            by_cases hkn : k = n
            · subst hkn; exact ih
            · exact env_sound hΓ hT k
          split at e
          · rename_i τ1 H1 he
            exact execC_sound ihs hrd hds c hc hat he fun a' w' hat' => ihk (by omega) hat' e
          · rename_i r hn
            refine execC_sound ihs hrd hds c hc hat e fun a' w' hat' => ?_
            have := hQ a' w' hat'
            cases x with
            | nrm => exact absurd e (by intro e; exact hn _ _ e)
            | ret => exact this
            | exit i => exact this
      exact key (n + 1) (Nat.le_refl _) hat e
    · intro rd ro g ps ca cb asg body Q ι₀ L₀ w₀ ds τ τ' H H' a w x h1 h2 hrd hds hat e hQ
      simp only [env] at e
      exact range_sound ih h1 h2 hrd hds hat e hQ
  termination_by n => n
  decreasing_by all_goals omega

end
end Go.Proofs.Eng
