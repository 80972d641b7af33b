/- The engine, part P: the rest of the operations, and all of them together. -/
import Derived.Test.YtkofnmiopjnhiaaEngO
set_option linter.unusedVariables false
set_option linter.unusedSimpArgs false
namespace Go.Proofs.Eng
open Go Go.RowKit

section
variable {P : Program} {PC : Code → AC → Prop} {ι : Io} {w : World}

theorem aconv_mark {H : Hp} {x : AV} : aconv H .mark x = (match x with
    | .ra sz' id off n => (match hget H id with
      | some (.arr sz es e) => if 0 < n then some (.ra sz' id off n, some (hset H id (some (.arr sz es e)))) else none
      | _ => none)
    | _ => none) := by
  cases x <;> rfl

theorem freeze_heap {w : World} {b n : Nat} {c : Array Value} {t : TypeId} {fr : Nat × Nat} (h : w.heap[b]? = some (.cells c t fr)) :
    (w.freeze ⟨b, n, none⟩ 1).heap[b]? = some (.cells c t (if fr.1 == fr.2 then (n, n + 1) else (min fr.1 n, max fr.2 (n + 1)))) := by
  unfold World.freeze
  rw [if_neg (by omega)]
  simp only [Array.getElem?_modify, if_true, h, Option.map_some]

theorem freeze_other {w : World} {b n k : Nat} (h : k ≠ b) : (w.freeze ⟨b, n, none⟩ 1).heap[k]? = w.heap[k]? := by
  unfold World.freeze
  rw [if_neg (by omega)]
  simp only [Array.getElem?_modify]
  rw [if_neg (fun e => h e.symm)]

theorem mark_sound {H : Hp} {sz' id off n sz : Nat} {es : List AV} {t : TypeId} {cx : Value} (hr : RelH PC ι H.l w) (hx : VRel ι (fzOf ι H.l w) (.ra sz' id off n) cx) (ho : hget H id = some (.arr sz es t)) (hn : 0 < n) :
    ∃ w', (∀ ad len cap, cx = .slice (some ad) len cap → (markStringish ad).run P w = .ok () w') ∧ Stp ι H.l w ι (hset H id (some (.arr sz es t))).l w' ∧ RelH PC ι (hset H id (some (.arr sz es t))).l w' ∧
      VRel ι (fzOf ι (hset H id (some (.arr sz es t))).l w') (.ra sz' id off n) cx := by
  have hx' := hx
  simp only [VRel] at hx
  obtain ⟨p, ad, cap, hp, hsz, rfl, hcap, had⟩ := hx
  obtain ⟨rfl, hroom⟩ := had (by omega)
  obtain ⟨c, fr, vs, h1, h2, h3, h4, h5, h6, h7, h8⟩ := hr.obj _ _ _ (hget_some ho) hp
  have hset := hr.set (w' := w.freeze ⟨p.blk, c.size, none⟩ 1) (o' := .arr sz es t) (hget_some ho) hp (by unfold World.freeze; split <;> rfl) (by unfold World.freeze; split <;> rfl) (by unfold World.freeze; split <;> rfl) (by unfold World.freeze; split <;> simp)
    (fun k _ hne => freeze_other hne) (fun hle => ⟨c, _, vs, freeze_heap h1, ?_, h3, h4, VRels.mono (List.prefix_refl _) hle _ _ h5, h6, h7, h8⟩)
  · refine ⟨_, fun ad len cap e => ?_, hset.2, hset.1, hset.2.v hx'⟩
    cases e
    have hs : w.shape? p.blk = some (t, c.size) := by unfold World.shape?; rw [h1]
    simp only [markStringish, Sem.run_bind, run_shape, Result.andThen_ok, hs, run_freeze]
  · rcases h2 with rfl | h2
    · exact .inr (Nat.le_refl _)
    · split
      · exact .inr (Nat.le_refl _)
      · exact .inr (by simp; omega)

theorem sound_convert (s d : TypeId) (x : Operand) {o : Oper} {ao : AOp} {a : Act} {τ : List AV} {H : Hp} {v : AV} {H' : Option Hp} (hp : pOp P o.op = some ao) (hr : RelH PC ι H.l w)
    (ht : VRels ι (fzOf ι H.l w) τ a.tmps.toList) (h : aop τ H ao = some (v, H')) (hop : o.op = .convert s d x) : OkN P PC ι H.l w (execOp a.eval o) v (H'.getD H).l := by
  rw [hop] at hp; simp only [pOp] at hp
  have ex : OkS P PC ι H.l w (convert s d (a.eval x)) v (H'.getD H).l → OkN P PC ι H.l w (execOp a.eval o) v (H'.getD H).l :=
    fun hk => hvN (convert s d (a.eval x)) (by simp only [execOp, hop]) hk
  split at hp
  · rename_i k' k h1 h2
    obtain ⟨y, hy, rfl⟩ := Option.map_eq_some_iff.1 hp
    have hv := aeval_rel ht hy
    simp only [aop, aconv] at h
    split at h <;> first
      | (simp at h; done)
      | contradiction
      | skip
    · rename_i k'' n hx hc
      cases hx
      rw [hc] at hv
      simp only [VRel] at hv
      simp only [Option.some.injEq, Prod.mk.injEq] at h
      obtain ⟨rfl, rfl⟩ := h
      refine ex (OkS.of (cv := .int k (k.wrap n)) hr ?_ (by simp only [VRel]))
      rw [hv]
      simp only [convert, Sem.run_bind, run_underlying' h1, run_underlying' h2, Result.andThen_ok, Conv.intToInt, Sem.run_pure]
  · rename_i h1 h2
    obtain ⟨y, hy, rfl⟩ := Option.map_eq_some_iff.1 hp
    have hv := aeval_rel ht hy
    simp only [aop, aconv] at h
    split at h <;> first
      | (simp at h; done)
      | contradiction
      | skip
    · rename_i n hx hc
      rw [hc] at hv
      simp only [VRel] at hv
      simp only [Option.some.injEq, Prod.mk.injEq] at h
      obtain ⟨rfl, rfl⟩ := h
      refine ex (OkS.of (cv := .string n) hr ?_ (by simp only [VRel]))
      rw [hv]
      simp only [convert, Sem.run_bind, run_underlying' h1, run_underlying' h2, Result.andThen_ok, Sem.run_pure]
  · rename_i e h1 h2
    split at hp
    · rename_i h3
      obtain ⟨y, hy, rfl⟩ := Option.map_eq_some_iff.1 hp
      have hv := aeval_rel ht hy
      simp only [aop, aconv] at h
      split at h <;> first
        | (simp at h; done)
        | contradiction
        | skip
      · rename_i e' n hx hc
        cases hx
        rw [hc] at hv
        simp only [VRel] at hv
        split at h
        · rename_i hn
          simp only [Option.some.injEq, Prod.mk.injEq] at h
          obtain ⟨rfl, rfl⟩ := h
          have e1 : (convert s d (a.eval x)).run P w = (Conv.stringToBytes e n).run P w := by
            rw [hv]
            simp only [convert, Sem.run_bind, run_underlying' h1, run_underlying' h2, run_underlying' h3, Result.andThen_ok]
          obtain ⟨cv, w', ι', q1, q2⟩ := bytes_sound (P := P) (e := e) hr hn
          exact ex ⟨cv, w', ι', e1.trans q1, q2⟩
        · simp at h
    · simp at hp
  · rename_i e h1 h2
    split at hp
    · rename_i h3
      obtain ⟨y, hy, rfl⟩ := Option.map_eq_some_iff.1 hp
      have hv := aeval_rel ht hy
      simp only [aop, aconv] at h
      simp only [Option.bind_eq_bind, Option.pure_def] at h
      obtain ⟨es, hes, h⟩ := Option.bind_eq_some_iff.1 h
      obtain ⟨b, hb, h⟩ := Option.bind_eq_some_iff.1 h
      simp only [Option.some.injEq, Prod.mk.injEq] at h
      obtain ⟨rfl, rfl⟩ := h
      refine ex (OkS.of (cv := .string (mkS b)) hr ?_ (by simp only [VRel]))
      have q := str_sound (P := P) hr hv hes hb
      obtain ⟨vs, hvs, hc⟩ := elems_sound hr hv hes
      rcases hc with ⟨hc, _⟩ | ⟨ad, cap, hc, _⟩ <;> (rw [hc] at q ⊢; simp only [convert, Sem.run_bind, run_underlying' h1, run_underlying' h2, run_underlying' h3, Result.andThen_ok]; exact q)
    · simp at hp
  · rename_i e e' h1 h2
    split at hp
    · rename_i h3
      split at hp
      · rename_i hsd
        obtain ⟨y, hy, rfl⟩ := Option.map_eq_some_iff.1 hp
        have hv := aeval_rel ht hy
        simp only [aop, aconv_mark] at h
        split at h
        · rename_i sz' id off n hx
          rw [hx] at hv
          split at h
          · rename_i sz es t ho
            split at h
            · rename_i hn
              simp only [Option.some.injEq, Prod.mk.injEq] at h
              obtain ⟨rfl, rfl⟩ := h
              obtain ⟨w', q1, q2, q3, q4⟩ := mark_sound (P := P) hr hv ho hn
              have hsl : ∃ ad len cap, a.eval x = .slice (some ad) len cap := by
                simp only [VRel] at hv
                obtain ⟨p, ad, cap, _, _, e1, _⟩ := hv
                exact ⟨ad, _, cap, e1⟩
              obtain ⟨ad, len, cap, e1⟩ := hsl
              refine ex ⟨a.eval x, w', ι, ?_, q2, q3, q4⟩
              have hsd' : (s == d) = true := by simpa using hsd
              rw [e1] at q1 ⊢
              simp only [convert, Sem.run_bind, run_underlying' h1, run_underlying' h2, run_underlying' h3, Result.andThen_ok, hsd']
              have := q1 ad len cap rfl
              simp only [Sem.run_bind, this, Result.andThen_ok, Sem.run_pure]
            · simp at h
          · simp at h
        · simp at h
      · simp at hp
    · simp at hp
  · simp at hp

theorem sound_makeFunc (f : FuncId) (fs cs : Array Operand) {o : Oper} {ao : AOp} {a : Act} {τ : List AV} {H : Hp} {v : AV} {H' : Option Hp} (hp : pOp P o.op = some ao) (hr : RelH PC ι H.l w)
    (ht : VRels ι (fzOf ι H.l w) τ a.tmps.toList) (h : aop τ H ao = some (v, H')) (hop : o.op = .makeFunc (.func f) fs cs) : OkN P PC ι H.l w (execOp a.eval o) v (H'.getD H).l := by
  rw [hop] at hp; simp only [pOp, Option.bind_eq_bind, Option.pure_def, pOpds] at hp
  obtain ⟨yf, hf, hp⟩ := Option.bind_eq_some_iff.1 hp
  obtain ⟨yc, hc, hp⟩ := Option.bind_eq_some_iff.1 hp
  simp only [Option.some.injEq] at hp; subst hp
  simp only [aop, Option.some.injEq, Prod.mk.injEq] at h
  obtain ⟨rfl, rfl⟩ := h
  refine hvN (Instr.makeFunc (.func f) (fs.map a.eval) (cs.map a.eval)) (by simp only [execOp, hop]) (OkS.of (cv := .func (.func f) (fs.map a.eval) (cs.map a.eval)) hr rfl ?_)
  simp only [VRel]
  refine ⟨_, _, rfl, ?_, ?_⟩
  · simpa using aevals_rel ht hf
  · simpa using aevals_rel ht hc

theorem sound_makeMap (t : TypeId) {o : Oper} {ao : AOp} {a : Act} {τ : List AV} {H : Hp} {v : AV} {H' : Option Hp} (hp : pOp P o.op = some ao) (hr : RelH PC ι H.l w)
    (ht : VRels ι (fzOf ι H.l w) τ a.tmps.toList) (h : aop τ H ao = some (v, H')) (hop : o.op = .makeMap t none) : OkN P PC ι H.l w (execOp a.eval o) v (H'.getD H).l := by
  rw [hop] at hp; simp only [pOp, Option.some.injEq] at hp
  subst hp
  simp only [aop, Option.some.injEq, Prod.mk.injEq] at h
  obtain ⟨rfl, rfl⟩ := h
  exact hvN (Instr.makeMap t none) (by simp only [execOp, hop, Option.map_none]) (mkmap_sound hr)

theorem sound_makeSlice (t : TypeId) (l c : Operand) {o : Oper} {ao : AOp} {a : Act} {τ : List AV} {H : Hp} {v : AV} {H' : Option Hp} (hp : pOp P o.op = some ao) (hr : RelH PC ι H.l w)
    (ht : VRels ι (fzOf ι H.l w) τ a.tmps.toList) (h : aop τ H ao = some (v, H')) (hop : o.op = .makeSlice t l c) : OkN P PC ι H.l w (execOp a.eval o) v (H'.getD H).l := by
  rw [hop] at hp; simp only [pOp, Option.bind_eq_bind, Option.pure_def] at hp
  split at hp
  · rename_i e hu
    obtain ⟨i, hi, hp⟩ := Option.bind_eq_some_iff.1 hp
    obtain ⟨z, hz, hp⟩ := Option.bind_eq_some_iff.1 hp
    split at hp
    · simp at hp
    · rename_i hc
      obtain ⟨yl, hl, hp⟩ := Option.bind_eq_some_iff.1 hp
      obtain ⟨yc, hcc, hp⟩ := Option.bind_eq_some_iff.1 hp
      simp only [Option.some.injEq] at hp; subst hp
      simp only [aop] at h
      have hvl := aeval_rel ht hl
      have hvc := aeval_rel ht hcc
      split at h
      · rename_i k n k' m e1 e2
        rw [e1] at hvl; rw [e2] at hvc
        simp only [VRel] at hvl hvc
        split at h
        · rename_i hg
          obtain ⟨h0, rfl, hrm, hgood, hsz⟩ := hg
          simp only [Option.some.injEq, Prod.mk.injEq] at h
          obtain ⟨rfl, rfl⟩ := h
          simp only [not_or, Decidable.not_not] at hc
          refine hvN (Instr.makeSlice t (a.eval l) (a.eval c)) (by simp only [execOp, hop]) ?_
          rw [hvl, hvc]
          obtain ⟨n', rfl⟩ : ∃ n' : Nat, n = (n' : Int) := ⟨n.toNat, by omega⟩
          exact mkslice_sound hr hu hi hz hc.1 hc.2.1 hc.2.2 hrm
        · simp at h
      · simp at h
  · simp at hp

theorem sound_slice (t : TypeId) (x : Operand) (lo hi : Option Operand) {o : Oper} {ao : AOp} {a : Act} {τ : List AV} {H : Hp} {v : AV} {H' : Option Hp} (hp : pOp P o.op = some ao) (hr : RelH PC ι H.l w)
    (ht : VRels ι (fzOf ι H.l w) τ a.tmps.toList) (h : aop τ H ao = some (v, H')) (hop : o.op = .slice t x lo hi none) : OkN P PC ι H.l w (execOp a.eval o) v (H'.getD H).l := by
  rw [hop] at hp; simp only [pOp, Option.bind_eq_bind, Option.pure_def] at hp
  split at hp
  · rename_i hu
    obtain ⟨y, hy, hp⟩ := Option.bind_eq_some_iff.1 hp
    obtain ⟨yl, hl, hp⟩ := Option.bind_eq_some_iff.1 hp
    obtain ⟨yh, hh, hp⟩ := Option.bind_eq_some_iff.1 hp
    simp only [Option.some.injEq] at hp; subst hp
    simp only [aop] at h
    obtain ⟨u, hu', h⟩ := Option.map_eq_some_iff.1 h
    simp only [Prod.mk.injEq] at h
    obtain ⟨rfl, rfl⟩ := h
    obtain ⟨l1, l2⟩ := pOpd_some ht hl
    obtain ⟨k1, k2⟩ := pOpd_some ht hh
    obtain ⟨cv, q1, q2⟩ := aslstr_sound (P := P) (w := w) hu (aeval_rel ht hy) l1 l2 k1 k2 hu'
    refine hvN (Instr.sliceAt t (a.eval x) (lo.map a.eval) (hi.map a.eval) none) (by simp only [execOp, hop, Option.map_none]) (OkS.of (cv := cv) hr ?_ q2)
    rw [← q1]
    simp only [Instr.sliceAt, Sem.run_bind, run_underlying' hu, Result.andThen_ok]
  · rename_i e hu
    obtain ⟨s, hs, hp⟩ := Option.bind_eq_some_iff.1 hp
    split at hp
    · simp at hp
    · obtain ⟨y, hy, hp⟩ := Option.bind_eq_some_iff.1 hp
      obtain ⟨yl, hl, hp⟩ := Option.bind_eq_some_iff.1 hp
      obtain ⟨yh, hh, hp⟩ := Option.bind_eq_some_iff.1 hp
      simp only [Option.some.injEq] at hp; subst hp
      simp only [aop] at h
      obtain ⟨u, hu', h⟩ := Option.map_eq_some_iff.1 h
      simp only [Prod.mk.injEq] at h
      obtain ⟨rfl, rfl⟩ := h
      obtain ⟨l1, l2⟩ := pOpd_some ht hl
      obtain ⟨k1, k2⟩ := pOpd_some ht hh
      obtain ⟨cv, q1, q2⟩ := aslice_sound (P := P) (w := w) hu hs (aeval_rel ht hy) l1 l2 k1 k2 hu'
      refine hvN (Instr.sliceAt t (a.eval x) (lo.map a.eval) (hi.map a.eval) none) (by simp only [execOp, hop, Option.map_none]) (OkS.of (cv := cv) hr ?_ q2)
      rw [← q1]
      simp only [Instr.sliceAt, Sem.run_bind, run_underlying' hu, Result.andThen_ok]
  · simp at hp

theorem sound_fieldAddr (s : TypeId) (x : Operand) (i : Nat) {o : Oper} {ao : AOp} {a : Act} {τ : List AV} {H : Hp} {v : AV} {H' : Option Hp} (hp : pOp P o.op = some ao) (hr : RelH PC ι H.l w)
    (ht : VRels ι (fzOf ι H.l w) τ a.tmps.toList) (h : aop τ H ao = some (v, H')) (hop : o.op = .fieldAddr s x i) : OkN P PC ι H.l w (execOp a.eval o) v (H'.getD H).l := by
  rw [hop] at hp; simp only [pOp, Option.bind_eq_bind, Option.pure_def] at hp
  split at hp
  · rename_i fs hu
    obtain ⟨f, hf, hp⟩ := Option.bind_eq_some_iff.1 hp
    obtain ⟨z, hz, hp⟩ := Option.bind_eq_some_iff.1 hp
    split at hp
    · simp at hp
    · rename_i hz0
      obtain ⟨y, hy, hp⟩ := Option.bind_eq_some_iff.1 hp
      simp only [Option.some.injEq] at hp; subst hp
      simp only [aop] at h
      obtain ⟨u, hu', h⟩ := Option.map_eq_some_iff.1 h
      simp only [Prod.mk.injEq] at h
      obtain ⟨rfl, rfl⟩ := h
      exact hvN (Instr.fieldAt s (a.eval x) i) (by simp only [execOp, hop]) (OkS.of' hr (afaddr_sound hu hf hz hz0 (aeval_rel ht hy) hu'))
  · simp at hp

theorem sound_field (s : TypeId) (x : Operand) (i : Nat) {o : Oper} {ao : AOp} {a : Act} {τ : List AV} {H : Hp} {v : AV} {H' : Option Hp} (hp : pOp P o.op = some ao) (hr : RelH PC ι H.l w)
    (ht : VRels ι (fzOf ι H.l w) τ a.tmps.toList) (h : aop τ H ao = some (v, H')) (hop : o.op = .field s x i) : OkN P PC ι H.l w (execOp a.eval o) v (H'.getD H).l := by
  rw [hop] at hp; simp only [pOp, Option.bind_eq_bind, Option.pure_def] at hp
  split at hp
  · rename_i fs hu
    obtain ⟨f, hf, hp⟩ := Option.bind_eq_some_iff.1 hp
    obtain ⟨z, hz, hp⟩ := Option.bind_eq_some_iff.1 hp
    obtain ⟨y, hy, hp⟩ := Option.bind_eq_some_iff.1 hp
    simp only [Option.some.injEq] at hp; subst hp
    simp only [aop] at h
    obtain ⟨u, hu', h⟩ := Option.map_eq_some_iff.1 h
    simp only [Prod.mk.injEq] at h
    obtain ⟨rfl, rfl⟩ := h
    exact hvN (Instr.field s (a.eval x) i) (by simp only [execOp, hop]) (OkS.of' hr (afield_sound hu hf hz (aeval_rel ht hy) hu'))
  · simp at hp

theorem sound_indexAddr (t : TypeId) (x i : Operand) {o : Oper} {ao : AOp} {a : Act} {τ : List AV} {H : Hp} {v : AV} {H' : Option Hp} (hp : pOp P o.op = some ao) (hr : RelH PC ι H.l w)
    (ht : VRels ι (fzOf ι H.l w) τ a.tmps.toList) (h : aop τ H ao = some (v, H')) (hop : o.op = .indexAddr t x i) : OkN P PC ι H.l w (execOp a.eval o) v (H'.getD H).l := by
  rw [hop] at hp; simp only [pOp, Option.bind_eq_bind, Option.pure_def] at hp
  split at hp
  · rename_i e hu
    obtain ⟨s, hs, hp⟩ := Option.bind_eq_some_iff.1 hp
    split at hp
    · simp at hp
    · obtain ⟨y, hy, hp⟩ := Option.bind_eq_some_iff.1 hp
      obtain ⟨yi, hi, hp⟩ := Option.bind_eq_some_iff.1 hp
      simp only [Option.some.injEq] at hp; subst hp
      simp only [aop] at h
      obtain ⟨u, hu', h⟩ := Option.map_eq_some_iff.1 h
      simp only [Prod.mk.injEq] at h
      obtain ⟨rfl, rfl⟩ := h
      exact hvN (Instr.indexAt t (a.eval x) (a.eval i)) (by simp only [execOp, hop]) (OkS.of' hr (aiaddr_sound hu hs (aeval_rel ht hy) (aeval_rel ht hi) hu'))
  · simp at hp

theorem sound_index (t : TypeId) (x i : Operand) {o : Oper} {ao : AOp} {a : Act} {τ : List AV} {H : Hp} {v : AV} {H' : Option Hp} (hp : pOp P o.op = some ao) (hr : RelH PC ι H.l w)
    (ht : VRels ι (fzOf ι H.l w) τ a.tmps.toList) (h : aop τ H ao = some (v, H')) (hop : o.op = .index t x i) : OkN P PC ι H.l w (execOp a.eval o) v (H'.getD H).l := by
  rw [hop] at hp; simp only [pOp, Option.bind_eq_bind, Option.pure_def] at hp
  split at hp
  · rename_i hu
    obtain ⟨y, hy, hp⟩ := Option.bind_eq_some_iff.1 hp
    obtain ⟨yi, hi, hp⟩ := Option.bind_eq_some_iff.1 hp
    simp only [Option.some.injEq] at hp; subst hp
    simp only [aop] at h
    obtain ⟨u, hu', h⟩ := Option.map_eq_some_iff.1 h
    simp only [Prod.mk.injEq] at h
    obtain ⟨rfl, rfl⟩ := h
    exact hvN (Instr.index t (a.eval x) (a.eval i)) (by simp only [execOp, hop]) (OkS.of' hr (asidx_sound hu (aeval_rel ht hy) (aeval_rel ht hi) hu'))
  · simp at hp

theorem sound_lookup (t : TypeId) (m k : Operand) (ok : Bool) {o : Oper} {ao : AOp} {a : Act} {τ : List AV} {H : Hp} {v : AV} {H' : Option Hp} (hp : pOp P o.op = some ao) (hr : RelH PC ι H.l w)
    (ht : VRels ι (fzOf ι H.l w) τ a.tmps.toList) (h : aop τ H ao = some (v, H')) (hop : o.op = .lookup t m k ok) : OkN P PC ι H.l w (execOp a.eval o) v (H'.getD H).l := by
  rw [hop] at hp; simp only [pOp, Option.bind_eq_bind, Option.pure_def] at hp
  split at hp
  · rename_i kt e hu
    obtain ⟨kd, hkd, hp⟩ := Option.bind_eq_some_iff.1 hp
    obtain ⟨z, hz, hp⟩ := Option.bind_eq_some_iff.1 hp
    obtain ⟨ym, hm, hp⟩ := Option.bind_eq_some_iff.1 hp
    obtain ⟨yk, hk, hp⟩ := Option.bind_eq_some_iff.1 hp
    simp only [Option.some.injEq] at hp; subst hp
    simp only [aop] at h
    obtain ⟨key, hkey, h⟩ := Option.bind_eq_some_iff.1 h
    obtain ⟨u, hu', h⟩ := Option.map_eq_some_iff.1 h
    simp only [Prod.mk.injEq] at h
    obtain ⟨rfl, rfl⟩ := h
    obtain ⟨e1, e2⟩ := asKey_form (aeval_rel ht hk) hkey
    refine hvN (Instr.lookup t (a.eval m) (a.eval k) ok) (by simp only [execOp, hop]) (OkS.of' hr ?_)
    rw [e1]
    exact lookup_sound hr hu hkd hz e2 (aeval_rel ht hm) hu'
  · simp at hp

theorem sound_mapUpdate (t : TypeId) (m k x : Operand) {o : Oper} {ao : AOp} {a : Act} {τ : List AV} {H : Hp} {v : AV} {H' : Option Hp} (hp : pOp P o.op = some ao) (hr : RelH PC ι H.l w)
    (ht : VRels ι (fzOf ι H.l w) τ a.tmps.toList) (h : aop τ H ao = some (v, H')) (hop : o.op = .mapUpdate t m k x) : OkN P PC ι H.l w (execOp a.eval o) v (H'.getD H).l := by
  rw [hop] at hp; simp only [pOp, Option.bind_eq_bind, Option.pure_def] at hp
  split at hp
  · rename_i kt e hu
    obtain ⟨kd, hkd, hp⟩ := Option.bind_eq_some_iff.1 hp
    obtain ⟨ym, hm, hp⟩ := Option.bind_eq_some_iff.1 hp
    obtain ⟨yk, hk, hp⟩ := Option.bind_eq_some_iff.1 hp
    obtain ⟨yx, hx, hp⟩ := Option.bind_eq_some_iff.1 hp
    simp only [Option.some.injEq] at hp; subst hp
    simp only [aop] at h
    obtain ⟨key, hkey, h⟩ := Option.bind_eq_some_iff.1 h
    obtain ⟨u, hu', h⟩ := Option.map_eq_some_iff.1 h
    simp only [Prod.mk.injEq] at h
    obtain ⟨rfl, rfl⟩ := h
    obtain ⟨e1, e2⟩ := asKey_form (aeval_rel ht hk) hkey
    obtain ⟨w', q1, q2, q3⟩ := mapupd_sound (P := P) hr hu hkd e2 (aeval_rel ht hm) (aeval_rel ht hx) hu'
    have : execOp a.eval o = (do Instr.mapUpdate t (a.eval m) (a.eval k) (a.eval x); Pure.pure .skip) := by simp only [execOp, hop]
    rw [this, e1]
    exact OkN.unit q1 q2 q3
  · simp at hp

theorem sound_insert (t : TypeId) (m k x : Operand) {o : Oper} {ao : AOp} {a : Act} {τ : List AV} {H : Hp} {v : AV} {H' : Option Hp} (hp : pOp P o.op = some ao) (hr : RelH PC ι H.l w)
    (ht : VRels ι (fzOf ι H.l w) τ a.tmps.toList) (h : aop τ H ao = some (v, H')) (hop : o.op = .insert t m k x) : OkN P PC ι H.l w (execOp a.eval o) v (H'.getD H).l := by
  rw [hop] at hp; simp only [pOp, Option.bind_eq_bind, Option.pure_def] at hp
  split at hp
  · rename_i kt e hu
    obtain ⟨kd, hkd, hp⟩ := Option.bind_eq_some_iff.1 hp
    obtain ⟨ym, hm, hp⟩ := Option.bind_eq_some_iff.1 hp
    obtain ⟨yk, hk, hp⟩ := Option.bind_eq_some_iff.1 hp
    obtain ⟨yx, hx, hp⟩ := Option.bind_eq_some_iff.1 hp
    simp only [Option.some.injEq] at hp; subst hp
    simp only [aop] at h
    obtain ⟨key, hkey, h⟩ := Option.bind_eq_some_iff.1 h
    obtain ⟨u, hu', h⟩ := Option.map_eq_some_iff.1 h
    simp only [Prod.mk.injEq] at h
    obtain ⟨rfl, rfl⟩ := h
    obtain ⟨e1, e2⟩ := asKey_form (aeval_rel ht hk) hkey
    obtain ⟨w', q1, q2, q3⟩ := mapupd_sound (P := P) hr hu hkd e2 (aeval_rel ht hm) (aeval_rel ht hx) hu'
    have : execOp a.eval o = (do Instr.mapUpdate t (a.eval m) (a.eval k) (a.eval x); Pure.pure .skip) := by simp only [execOp, hop]
    rw [this, e1]
    exact OkN.unit q1 q2 q3
  · simp at hp

theorem sound_extract (t : Operand) (i : Nat) {o : Oper} {ao : AOp} {a : Act} {τ : List AV} {H : Hp} {v : AV} {H' : Option Hp} (hp : pOp P o.op = some ao) (hr : RelH PC ι H.l w)
    (ht : VRels ι (fzOf ι H.l w) τ a.tmps.toList) (h : aop τ H ao = some (v, H')) (hop : o.op = .extract t i) : OkN P PC ι H.l w (execOp a.eval o) v (H'.getD H).l := by
  rw [hop] at hp; simp only [pOp, Option.bind_eq_bind, Option.pure_def] at hp
  obtain ⟨y, hy, hp⟩ := Option.bind_eq_some_iff.1 hp
  simp only [Option.some.injEq] at hp; subst hp
  simp only [aop] at h
  have hv := aeval_rel ht hy
  split at h
  · rename_i xs hx
    rw [hx] at hv
    obtain ⟨u, hu', h⟩ := Option.map_eq_some_iff.1 h
    simp only [Prod.mk.injEq] at h
    obtain ⟨rfl, rfl⟩ := h
    simp only [VRel] at hv
    obtain ⟨cs, e, hv⟩ := hv
    obtain ⟨cv, q1, q2⟩ := hv.get hu'
    refine hvN (Instr.extract (a.eval t) i) (by simp only [execOp, hop]) (OkS.of (cv := cv) hr ?_ q2)
    rw [e]
    simp only [Instr.extract]
    rw [show cs[i]? = some cv by simpa using q1]
    rfl
  · rename_i xs hx
    rw [hx] at hv
    obtain ⟨u, hu', h⟩ := Option.map_eq_some_iff.1 h
    simp only [Prod.mk.injEq] at h
    obtain ⟨rfl, rfl⟩ := h
    simp only [VRel] at hv
    refine hvN (Instr.extract (a.eval t) i) (by simp only [execOp, hop]) (OkS.of (cv := u) hr ?_ (by simp only [VRel]))
    rw [hv]
    simp only [Instr.extract, hu']
    rfl
  · simp at h

/-- Every operation that the engine takes, but a call of a Go function. -/
theorem aop_sound {o : Oper} {ao : AOp} {a : Act} {τ : List AV} {H : Hp} {v : AV} {H' : Option Hp} (hp : pOp P o.op = some ao) (hr : RelH PC ι H.l w)
    (ht : VRels ι (fzOf ι H.l w) τ a.tmps.toList) (h : aop τ H ao = some (v, H')) : OkN P PC ι H.l w (execOp a.eval o) v (H'.getD H).l := by
  cases hop : o.op with
  | move x => exact sound_move x hp hr ht h hop
  | assign x => exact sound_assign x hp hr ht h hop
  | pick c x y => exact sound_pick c x y hp hr ht h hop
  | alloc t => exact sound_alloc t hp hr ht h hop
  | box t x => exact sound_box t x hp hr ht h hop
  | build t ps => exact sound_build t ps hp hr ht h hop
  | buildSlice t n ps => exact sound_buildSlice t n ps hp hr ht h hop
  | load t x => exact sound_load t x hp hr ht h hop
  | store t x y => exact sound_store t x y hp hr ht h hop
  | nilCheck x => exact sound_nilCheck x hp hr ht h hop
  | binOp op t x y yt => exact sound_binOp op t x y yt hp hr ht h hop
  | unOp op t x => exact sound_unOp op t x hp hr ht h hop
  | convert s d x => exact sound_convert s d x hp hr ht h hop
  | makeFunc f fs cs =>
    cases f with
    | func f => exact sound_makeFunc f fs cs hp hr ht h hop
    | _ => rw [hop] at hp; simp only [pOp] at hp; simp at hp
  | makeMap t r =>
    cases r with
    | none => exact sound_makeMap t hp hr ht h hop
    | some r => rw [hop] at hp; simp only [pOp] at hp; simp at hp
  | makeSlice t l c => exact sound_makeSlice t l c hp hr ht h hop
  | slice t x lo hi mx =>
    cases mx with
    | none => exact sound_slice t x lo hi hp hr ht h hop
    | some mx => rw [hop] at hp; simp only [pOp] at hp; simp at hp
  | fieldAddr s x i => exact sound_fieldAddr s x i hp hr ht h hop
  | field s x i => exact sound_field s x i hp hr ht h hop
  | indexAddr t x i => exact sound_indexAddr t x i hp hr ht h hop
  | index t x i => exact sound_index t x i hp hr ht h hop
  | lookup t m k ok => exact sound_lookup t m k ok hp hr ht h hop
  | mapUpdate t m k x => exact sound_mapUpdate t m k x hp hr ht h hop
  | insert t m k x => exact sound_insert t m k x hp hr ht h hop
  | extract t i => exact sound_extract t i hp hr ht h hop
  | call c =>
    rw [hop] at hp; simp only [pOp] at hp
    cases hc : c.callee with
    | builtin b => exact abuiltin_sound hop hc hp hr ht h
    | invoke r n => simp only [pCall, hc] at hp; simp at hp
    | value f =>
      simp only [pCall, hc, Option.bind_eq_bind, Option.pure_def] at hp
      obtain ⟨y, hy, hp⟩ := Option.bind_eq_some_iff.1 hp
      obtain ⟨z, hz, hp⟩ := Option.bind_eq_some_iff.1 hp
      simp only [Option.some.injEq] at hp; subst hp
      simp only [aop] at h
      simp at h
  | _ => rw [hop] at hp; simp only [pOp] at hp; simp at hp

end
end Go.Proofs.Eng
