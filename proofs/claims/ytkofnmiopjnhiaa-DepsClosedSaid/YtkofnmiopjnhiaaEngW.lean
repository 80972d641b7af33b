/- The engine, part W: functions, rounds and loops over functions, soundly; the environment. -/
import Derived.Test.YtkofnmiopjnhiaaEngV
set_option linter.unusedVariables false
set_option linter.unusedSimpArgs false
namespace Go.Proofs.Eng
open Go Go.RowKit

section
variable {P : Program} {ι : Io} {w : World}

/-! ### Results -/
def pRes (P : Program) : ResultVar → Option (Sum Nat (Nat × Option Nat))
  | .tmp t => some (.inl t)
  | .cell a t => (pLay P t).map fun l => .inr (a, l)

def pFunc (P : Program) (fn : Func) : Option AFunc := do
  let body ← fn.body
  let ac ← pCode P body
  let rs ← fn.results.toList.mapM (pRes P)
  if fn.name == "runtime.NumGoroutine" then none else some { ntmps := fn.ntmps, results := rs, body := ac }

def oneF (tmps : Array Value) : ResultVar → Sem Value
  | .tmp t => pure (tmps.getD t undef)
  | .cell a t => do loadVar t (← asAddr (tmps.getD a undef))
theorem results_eq (fn : Func) (tmps : Array Value) : results fn tmps = (do
    let vs ← fn.results.mapM (oneF tmps)
    pure (if h : vs.size = 1 then vs[0] else .tuple vs)) := by
  unfold results
  congr 2

theorem run_one {H : Hp} {τ : List AV} {tmps : Array Value} {r : ResultVar} {q : Sum Nat (Nat × Option Nat)} {v : AV} (hr : RelH (PCof P) ι H.l w) (ht : VRels ι (fzOf ι H.l w) τ tmps.toList) (hq : pRes P r = some q) (h : resOne τ H q = some v) :
    ∃ cv, (oneF tmps r).run P w = .ok cv w ∧ VRel ι (fzOf ι H.l w) v cv := by
  have hget : ∀ t : Nat, VRel ι (fzOf ι H.l w) (τ.getD t avU) (tmps.getD t undef) := fun t => aeval_rel (a := { tmps, defers := [] }) (x := .tmp t) (y := .t t) ht rfl
  cases r with
  | tmp t =>
    simp only [pRes, Option.some.injEq] at hq; subst hq
    simp only [resOne, Option.some.injEq] at h; subst h
    exact ⟨_, rfl, hget t⟩
  | cell a t =>
    simp only [pRes] at hq
    obtain ⟨l, hl, rfl⟩ := Option.map_eq_some_iff.1 hq
    simp only [resOne] at h
    obtain ⟨cv, q1, q2⟩ := aload_sound (P := P) hr hl (hget a) h
    refine ⟨cv, ?_, q2⟩
    have hp : ∃ ad, tmps.getD a undef = .pointer (some ad) := by
      have hv := hget a
      unfold aload at h
      split at h
      · rename_i e; rw [e] at hv; simp only [VRel] at hv; obtain ⟨p, _, e⟩ := hv; exact ⟨_, e⟩
      · rename_i e; rw [e] at hv; simp only [VRel] at hv; obtain ⟨p, _, e⟩ := hv; exact ⟨_, e⟩
      · rename_i e; rw [e] at hv; simp only [VRel] at hv; obtain ⟨ad, vs, e, _⟩ := hv; exact ⟨_, e⟩
      · simp at h
    obtain ⟨ad, hp⟩ := hp
    rw [hp] at q1
    simp only [Instr.loadAt, Instr.sureAddr, Sem.run_bind, Sem.run_pure, Result.andThen_ok] at q1
    simp only [oneF, hp, asAddr, Sem.run_bind, Sem.run_pure, Result.andThen_ok]
    exact q1

theorem run_all {H : Hp} {τ : List AV} {tmps : Array Value} (hr : RelH (PCof P) ι H.l w) (ht : VRels ι (fzOf ι H.l w) τ tmps.toList) : ∀ {rs : List ResultVar} {qs : List (Sum Nat (Nat × Option Nat))} {vs : List AV}, rs.mapM (pRes P) = some qs → qs.mapM (resOne τ H) = some vs →
    ∃ cvs, (rs.mapM (oneF tmps)).run P w = .ok cvs w ∧ VRels ι (fzOf ι H.l w) vs cvs
  | [], qs, vs, h1, h2 => by
    simp at h1; subst h1
    simp at h2; subst h2
    exact ⟨[], by simp, by simp⟩
  | r :: rs, qs, vs, h1, h2 => by
    obtain ⟨q, qs', a1, a2, rfl⟩ := mapM_cons_some h1
    obtain ⟨v, vs', b1, b2, rfl⟩ := mapM_cons_some h2
    obtain ⟨cv, c1, c2⟩ := run_one hr ht a1 b1
    obtain ⟨cvs, d1, d2⟩ := run_all hr ht a2 b2
    refine ⟨cv :: cvs, ?_, by simp [c2, d2]⟩
    rw [List.mapM_cons]
    simp only [Sem.run_bind, c1, Result.andThen_ok, d1, Sem.run_pure]

theorem results_sound {H : Hp} {τ : List AV} {tmps : Array Value} {fn : Func} {qs : List (Sum Nat (Nat × Option Nat))} {v : AV} (hr : RelH (PCof P) ι H.l w) (ht : VRels ι (fzOf ι H.l w) τ tmps.toList) (hq : fn.results.toList.mapM (pRes P) = some qs) (h : resA qs τ H = some v) :
    ∃ cv, (results fn tmps).run P w = .ok cv w ∧ VRel ι (fzOf ι H.l w) v cv := by
  unfold resA at h
  cases hm : qs.mapM (resOne τ H) with
  | none => rw [hm] at h; simp at h
  | some vs =>
    obtain ⟨cvs, c1, c2⟩ := run_all hr ht hq hm
    have hrun : (fn.results.mapM (oneF tmps)).run P w = .ok cvs.toArray w := by
      rw [Array.mapM_eq_mapM_toList]
      simp only [Sem.run_map, c1, Result.andThen_ok]
    rw [hm] at h
    have hres : (results fn tmps).run P w = .ok (if hh : cvs.toArray.size = 1 then cvs.toArray[0] else .tuple cvs.toArray) w := by
      rw [results_eq]
      simp only [Sem.run_bind]
      rw [hrun]
      simp only [Result.andThen_ok, Sem.run_pure]
    cases vs with
    | nil =>
      simp only [Option.some.injEq] at h; subst h
      simp at c2; subst c2
      exact ⟨_, hres, by simp only [VRel]; exact ⟨#[], rfl, by simp⟩⟩
    | cons x xs =>
      obtain ⟨u, us, rfl, e1, e2⟩ := VRels_cons_inv c2
      cases xs with
      | nil =>
        simp only [Option.some.injEq] at h; subst h
        simp at e2; subst e2
        exact ⟨_, hres, by simpa using e1⟩
      | cons y ys =>
        simp only [Option.some.injEq] at h; subst h
        obtain ⟨u', us', rfl, f1, f2⟩ := VRels_cons_inv e2
        refine ⟨_, hres, ?_⟩
        simp only [VRel]
        exact ⟨_, by simp; rfl, by simp [e1, f1, f2]⟩


/-! ### A function's own end -/
theorem run_take {D : Nat} (h : w.heap[D]? = some (.deferred (some []))) : (Instr.takeDeferred D).run P w = .ok [] (setObjW w D (.deferred none)) := by
  have h1 : (getObj D).run P w = .ok (.deferred (some [])) w := by simp [getObj, Sem.run, h]
  have h2 : (setObj D (.deferred none)).run P w = .ok () (setObjW w D (.deferred none)) := by simp [setObj, Sem.run, h, setObjW]
  simp only [Instr.takeDeferred, Sem.run_bind, h1, h2, Result.andThen_ok, Sem.run_pure]

/-- A block that nobody owns and that holds no cells is written. -/
theorem RelH.other {PC : Code → AC → Prop} {L : HL} {D : Nat} {o ob : Obj} (h : RelH PC ι L w) (hn : ¬ Owned ι L D) (hb : w.heap[D]? = some ob) (hc : ∀ c t f, ob ≠ .cells c t f) :
    RelH PC ι L (setObjW w D o) ∧ FzLe (fzOf ι L w) (fzOf ι L (setObjW w D o)) := by
  have hfz : FzLe (fzOf ι L w) (fzOf ι L (setObjW w D o)) := by
    refine ⟨fun k c t f e => ?_⟩
    rw [fzOf_some'] at e ⊢
    refine ⟨e.1, ?_⟩
    have : k ≠ D := by rintro rfl; rw [e.2] at hb; cases hb; exact hc _ _ _ rfl
    rw [setObjW_other this]; exact e.2
  refine ⟨⟨h.len, fun i oi p h1 h2 => ?_, h.inj, fun k hk => by have := h.xlt k hk; simpa [setObjW] using this, h.xno⟩, hfz⟩
  refine (h.obj i oi p h1 h2).move (List.prefix_refl _) hfz (setObjW_other ?_)
  rintro rfl
  exact hn ⟨i, oi, p, h1, h2, rfl⟩

theorem leaves_sound {fn : Func} {tmps : Array Value} {τ : List AV} {L₀ : HL} {ι₀ : Io} {w₀ : World} {H' : Hp} {R : Ending → World → Prop} (hR : ∀ w', Stp ι₀ L₀ w₀ ι H'.l w' → RelH (PCof P) ι H'.l w' → VRels ι (fzOf ι H'.l w') τ tmps.toList →
    ∃ v, (results fn tmps).run P w' = .ok v w' ∧ R (.returned v) w') : ∀ (Ds : List Nat) {w : World}, Ds.Nodup → (∀ D ∈ Ds, w₀.heap.size ≤ D ∧ w.heap[D]? = some (.deferred (some [])) ∧ ¬ Owned ι H'.l D) →
    Stp ι₀ L₀ w₀ ι H'.l w → RelH (PCof P) ι H'.l w → VRels ι (fzOf ι H'.l w) τ tmps.toList →
    LeavesInM Fence.wide 0 P fn tmps R (Ds.map (fun D => { target := .collected D, args := #[] })) .returning w
  | [], w, _, _, s, hr, ht => by
    simp only [List.map_nil, LeavesInM, LeavesIn]
    exact hR w s hr ht
  | D :: Ds, w, hn, hD, s, hr, ht => by
    simp only [List.map_cons, LeavesInM]
    obtain ⟨d1, d2, d3⟩ := hD D (by simp)
    refine ⟨by simp, .inl ⟨D, _, rfl, run_take d2, ?_⟩⟩
    obtain ⟨r1, r2⟩ := hr.other (o := .deferred none) d3 d2 (fun c t f e => by cases e)
    have hn' := List.nodup_cons.1 hn
    refine leaves_sound hR Ds hn'.2 (fun D' hD' => ?_) ⟨s.pre, s.os, s.tape, s.output, by simpa [setObjW] using s.size, fun k hk ho => ?_, s.xs⟩ r1 (VRels.mono (List.prefix_refl _) r2 _ _ ht)
    · obtain ⟨e1, e2, e3⟩ := hD D' (by simp [hD'])
      refine ⟨e1, ?_, e3⟩
      rw [setObjW_other (fun e => hn'.1 (by rw [← e]; exact hD'))]; exact e2
    · have := s.frame k hk ho
      exact ⟨this.1, by rw [setObjW_other (by omega)]; exact this.2⟩

/-- The functions, as they are resolved. -/
def TOK (P : Program) (A : Tab) : Prop := ∀ (f : FuncId) (af : AFunc), A f = some af → ∃ fn, P.funcs[f]? = some fn ∧ pFunc P fn = some { af with frz := false }

theorem pFunc_spec {fn : Func} {af : AFunc} (h : pFunc P fn = some af) : ∃ c, fn.body = some c ∧ pCode P c = some af.body ∧ fn.ntmps = af.ntmps ∧ fn.results.toList.mapM (pRes P) = some af.results ∧ (fn.name == "runtime.NumGoroutine") = false := by
  simp only [pFunc, Option.bind_eq_bind, Option.pure_def] at h
  obtain ⟨c, hc, h⟩ := Option.bind_eq_some_iff.1 h
  obtain ⟨ac, hac, h⟩ := Option.bind_eq_some_iff.1 h
  obtain ⟨rs, hrs, h⟩ := Option.bind_eq_some_iff.1 h
  split at h
  · simp at h
  · rename_i hn
    simp only [Option.some.injEq] at h; subst h
    exact ⟨c, hc, hac, rfl, hrs, by simpa using hn⟩

theorem ent_sound {E : Env} {A : Tab} (hT : TOK P A) (hE : SOK P E) (hL : ELe E) {f : FuncId} {args : List AV} {H : Hp} {v : AV} {h : Option Hp} {cargs : Array Value} {af : AFunc} (hA : A f = some af) (hr : RelH (PCof P) ι H.l w)
    (ha : VRels ι (fzOf ι H.l w) args cargs.toList) (e : runF (execC E none) af args H = some (v, h)) : Enters P (Left P ι H.l w v (h.getD H).l) f cargs w := by
  obtain ⟨fn, hf, hp⟩ := hT f af hA
  obtain ⟨c, hc, hac, hnt, hrs, hname⟩ := pFunc_spec hp
  refine ⟨?_, ?_⟩
  · simp only [callFunc, Sem.run_bind, run_program, Result.andThen_ok, hf, hname, Bool.false_eq_true, if_false, hc, Option.isNone_some]
    rfl
  · refine callsIn_of_wp_marks hf hc trivial ?_
    have key : ∀ {x : AX} {τ' : List AV} {H' : Hp}, execC E none af.body (args ++ List.replicate (af.ntmps - args.length) avU) { l := H.l, d := none } = some (x, τ', H') → (x = .nrm ∨ x = .ret) → (resA af.results τ' H').map (fun v => settleZ af.frz H v H') = some (v, h) →
        c.wpIn Fence.wide 0 P (bodyPostM Fence.wide 0 P fn fun
          | .returned v', w'' => Left P ι H.l w v (h.getD H).l v' w''
          | _, _ => False) { tmps := cargs ++ Array.replicate (fn.ntmps - cargs.size) undef, defers := [] } w := by
      intro x τ' H' hx hxx hres
      obtain ⟨u, hu, hset⟩ := Option.map_eq_some_iff.1 hres
      have hlen : args.length = cargs.size := by rw [ha.length]; simp
      have hat : At P ι H.l w w.heap.size (args ++ List.replicate (af.ntmps - args.length) avU) H.l { tmps := cargs ++ Array.replicate (fn.ntmps - cargs.size) undef, defers := [] } w := by
        refine ⟨ι, Stp.refl _ _ _, hr, ?_, [], rfl, by simp, by simp⟩
        simp only [Array.toList_append, Array.toList_replicate]
        rw [hnt, hlen]
        exact ha.append (VRels.replicate (by simp only [VRel, undef]) _)
      refine execC_sound (rd := none) (ro := none) hE rfl (Nat.le_refl _) c (H := { l := H.l, d := none }) hac hat hx fun a' w' hat' => ?_
      have hfin : LeavesInM Fence.wide 0 P fn a'.tmps (fun
          | .returned v', w'' => Left P ι H.l w v (h.getD H).l v' w''
          | _, _ => False) a'.defers .returning w' := by
        obtain ⟨ι', q1, q2, q3, Ds, e1, e2, e3⟩ := hat'.ex
        rw [e1]
        refine leaves_sound (τ := τ') (H' := H') (fun w'' s hr' ht' => ?_) Ds e2 e3 q1 q2 q3
        obtain ⟨cv, r1, r2⟩ := results_sound hr' ht' hrs hu
        exact ⟨cv, r1, settleZ_sound hr (execC_le hL _ hx) s hr' r2 hset⟩
      rcases hxx with rfl | rfl
      · exact hfin
      · exact hfin
    unfold runF at e
    split at e
    · rename_i τ' H' hx
      exact key hx (.inl rfl) e
    · rename_i τ' H' hx
      exact key hx (.inr rfl) e
    · simp at e

/-! ### Loops over functions -/
theorem loop_at {H : Hp} {l : Nat} {st : LoopState} {pe : AX} {τ : List AV} {ps : List Nat} {asg body : AC} {p : Pl} (hr : RelH (PCof P) ι H.l w) (hp : ι.l[l]? = some p) (ho : hget H l = some (.loop st pe τ ps asg body)) :
    ∃ r : Loop, w.heap[p.blk]? = some (.loop r) ∧ r.state = st ∧ r.pending = pe.code ∧ VRels ι (fzOf ι H.l w) τ r.tmps.toList ∧ r.params.toList = ps ∧ pCode P r.assign = some asg ∧ pCode P r.body = some body :=
  hr.obj _ _ _ (hget_some ho) hp

theorem run_getLoop {l : Nat} {r : Loop} (h : w.heap[l]? = some (.loop r)) : (Instr.getLoop l).run P w = .ok r w := by
  have h1 : (getObj l).run P w = .ok (.loop r) w := by simp [getObj, Sem.run, h]
  simp only [Instr.getLoop, Sem.run_bind, h1, Result.andThen_ok, Sem.run_pure]

theorem run_setLoop {l : Nat} {r : Loop} {o : Obj} (h : w.heap[l]? = some (.loop r)) : (setObj l o).run P w = .ok () (setObjW w l o) := by
  simp [setObj, Sem.run, h, setObjW]

theorem loop_set {H : Hp} {l : Nat} {st st' : LoopState} {pe pe' : AX} {τ : List AV} {ps : List Nat} {asg body : AC} {p : Pl} {r : Loop} (hr : RelH (PCof P) ι H.l w) (hp : ι.l[l]? = some p) (ho : hget H l = some (.loop st pe τ ps asg body))
    (hb : w.heap[p.blk]? = some (.loop r)) :
    RelH (PCof P) ι (H.l.set l (some (.loop st' pe' τ ps asg body))) (setObjW w p.blk (.loop { r with state := st', pending := pe'.code })) ∧ Stp ι H.l w ι (H.l.set l (some (.loop st' pe' τ ps asg body))) (setObjW w p.blk (.loop { r with state := st', pending := pe'.code })) := by
  have hlt := (Array.getElem?_eq_some_iff.1 hb).1
  obtain ⟨r', h1, h2, h3, h4, h5, h6, h7⟩ := loop_at hr hp ho
  rw [hb] at h1; cases h1
  exact hr.set (o' := .loop st' pe' τ ps asg body) (hget_some ho) hp rfl rfl rfl (by simp [setObjW]) (fun k _ hne => setObjW_other hne)
    (fun hle => ⟨_, setObjW_same hlt, rfl, rfl, VRels.mono (List.prefix_refl _) hle _ _ h4, h5, h6, h7⟩)

theorem putAll_sound {fz : Fz} : ∀ {ps : List Nat} {xs : List AV} {cs : List Value} {τ : List AV} {t : Array Value}, VRels ι fz xs cs → VRels ι fz τ t.toList →
    VRels ι fz (putAll ps xs τ) ((ps.zip cs).foldl (fun tmps (q : Nat × Value) => tmps.setIfInBounds q.1 q.2) t).toList
  | [], xs, cs, τ, t, _, ht => by simpa [putAll] using ht
  | p :: ps, [], cs, τ, t, hx, ht => by simp at hx; subst hx; simpa [putAll] using ht
  | p :: ps, x :: xs, cs, τ, t, hx, ht => by
    obtain ⟨u, us, rfl, h1, h2⟩ := VRels_cons_inv hx
    simp only [putAll, List.zip_cons_cons, List.foldl_cons]
    exact putAll_sound h2 (by simpa using ht.set p h1)

theorem yld_sound {E : Env} (hE : SOK P E) {l : Nat} {args : List AV} {H : Hp} {v : AV} {h : Option Hp} {cargs : Array Value} {p : Pl} (hp : ι.l[l]? = some p) (hr : RelH (PCof P) ι H.l w)
    (ha : VRels ι (fzOf ι H.l w) args cargs.toList) (e : runY (execC E (some l)) l args H = some (v, h)) : Upon P (Left P ι H.l w v (h.getD H).l) ((Instr.yield p.blk cargs).run P w) := by
  unfold runY at e
  split at e
  · rename_i pe τ ps asg body ho
    split at e
    · rename_i hlen
      split at e
      · rename_i τ1 H1 hasg
        split at e
        · rename_i pe1 τ1' ps1 asg1 body1 ho1
          split at e
          · rename_i x τ2 H2 hbody
            split at e
            · rename_i st2 pe2 τ2' ps2 asg2 body2 ho2
              simp only [Option.some.injEq, Prod.mk.injEq] at e
              obtain ⟨rfl, rfl⟩ := e
              obtain ⟨r, b1, b2, b3, b4, b5, b6, b7⟩ := loop_at hr hp ho
              have hsz : cargs.size = r.params.size := by
                have e1 := ha.length
                have e2 : r.params.toList.length = ps.length := by rw [b5]
                simp only [Array.length_toList] at e1 e2
                omega
              have hrun : (Instr.yield p.blk cargs).run P w = .ok (.round p.blk r.fn ((r.params.zip cargs).foldl (fun tmps (t, a) => tmps.setIfInBounds t a) r.tmps) r.assign r.body) w := by
                simp only [Instr.yield, Sem.run_bind, run_getLoop b1, Result.andThen_ok, hsz, ne_eq, not_true_eq_false, if_false, Sem.run_pure]
              rw [hrun]
              simp only [Upon]
              refine roundIn_of_wpIn trivial ?_
              have ht0 : VRels ι (fzOf ι H.l w) (putAll ps args τ) ((r.params.zip cargs).foldl (fun tmps (t, a) => tmps.setIfInBounds t a) r.tmps).toList := by
                have := putAll_sound (ps := ps) ha b4
                rw [← Array.foldl_toList, Array.toList_zip, b5]
                exact this
              refine execC_sound (rd := some l) (ro := some p.blk) (ι₀ := ι) (L₀ := H.l) (w₀ := w) (ds := 0) hE ⟨p, hp, rfl⟩ (Nat.zero_le _) r.assign (H := H) b6 ⟨ι, Stp.refl _ _ _, hr, ht0, [], rfl, by simp, by simp⟩ hasg fun a1 w1 hat1 => ?_
              obtain ⟨ι1, q1, q2, q3, q4⟩ := hat1.ex
              have hp1 := prefix_get q1.pre hp
              obtain ⟨r1, c1, c2, c3, c4, c5, c6, c7⟩ := loop_at q2 hp1 ho1
              have hbegin : (Instr.beginRound p.blk).run P w1 = .ok () (setObjW w1 p.blk (.loop { r1 with state := .busy, pending := pe1.code })) := by
                have : ({ r1 with state := .busy, pending := pe1.code } : Loop) = { r1 with state := .busy } := by rw [← c3]
                rw [this]
                simp only [Instr.beginRound, Sem.run_bind, run_getLoop c1, run_setLoop c1, Result.andThen_ok, c2, Sem.run_pure]
              refine ⟨_, hbegin, ?_⟩
              obtain ⟨s1, s2⟩ := loop_set (st' := .busy) (pe' := pe1) q2 hp1 ho1 c1
              refine execC_sound (rd := some l) (ro := some p.blk) (ι₀ := ι) (L₀ := H.l) (w₀ := w) (ds := 0) hE ⟨p, hp, rfl⟩ (Nat.zero_le _) r.body (H := hset H1 l (some (.loop .busy pe1 τ1' ps1 asg1 body1))) b7 ⟨ι1, q1.trans s2, s1, s2.vs q3, q4.step s2⟩ hbody fun a2 w2 hat2 => ?_
              obtain ⟨ι2, t1, t2, t3, t4⟩ := hat2.ex
              have hp2 := prefix_get t1.pre hp
              obtain ⟨r2, d1, d2, d3, d4, d5, d6, d7⟩ := loop_at t2 hp2 ho2
              have hend : ∀ j : Option Code, j = x.code → (Instr.endRound p.blk j).run P w2 = .ok (.bool (x == .nrm)) (setObjW w2 p.blk (.loop { r2 with state := if x = .nrm then .ready else .done, pending := x.code })) := by
                rintro j rfl
                simp only [Instr.endRound, Sem.run_bind, run_getLoop d1, run_setLoop d1, Result.andThen_ok, Sem.run_pure]
                cases x <;> simp [AX.code]
              obtain ⟨u1, u2⟩ := loop_set (st' := if x = .nrm then .ready else .done) (pe' := x) t2 hp2 ho2 d1
              have hleft : Left P ι H.l w (avBool (x == .nrm)) ((some (hset H2 l (some (.loop (if x = .nrm then .ready else .done) x τ2' ps2 asg2 body2)))).getD H).l (.bool (x == .nrm))
                  (setObjW w2 p.blk (.loop { r2 with state := if x = .nrm then .ready else .done, pending := x.code })) := ⟨ι2, t1.trans u2, u1, by simp only [VRel]⟩
              cases x with
              | nrm => exact ⟨_, _, hend none rfl, hleft⟩
              | ret => exact ⟨_, _, hend (some .ret) rfl, hleft⟩
              | exit id => exact ⟨_, _, hend (some (.exit id)) rfl, hleft⟩
            · simp at e
          · simp at e
        · simp at e
      · simp at e
    · simp at e
  · simp at e

end
end Go.Proofs.Eng
