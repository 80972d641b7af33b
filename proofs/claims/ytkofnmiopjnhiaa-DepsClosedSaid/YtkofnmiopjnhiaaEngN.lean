/- The engine, part N: an operation that is no call of a Go function does in the model what it does on abstract values. -/
import Derived.Test.YtkofnmiopjnhiaaEngM
set_option linter.unusedVariables false
set_option linter.unusedSimpArgs false
namespace Go.Proofs.Eng
open Go Go.RowKit

section
variable {P : Program} {PC : Code → AC → Prop} {ι : Io} {w : World}

theorem OkS.of' {L : HL} (hr : RelH PC ι L w) {s : Sem Value} {v : AV} (h : ∃ cv, s.run P w = .ok cv w ∧ VRel ι (fzOf ι L w) v cv) : OkS P PC ι L w s v L := by
  obtain ⟨cv, h1, h2⟩ := h
  exact OkS.of hr h1 h2

theorem args1 {α : Type} {xs : Array α} {x : α} (h : xs.toList = [x]) : xs = #[x] := by apply Array.ext'; simpa using h
theorem args2 {α : Type} {xs : Array α} {x y : α} (h : xs.toList = [x, y]) : xs = #[x, y] := by apply Array.ext'; simpa using h

theorem src_of_elems {H : Hp} {x : AV} {cx : Value} {ys : List AV} {sz : Nat} (hr : RelH PC ι H.l w) (hx : VRel ι (fzOf ι H.l w) x cx) (h : asElems H x = some ys) :
    ys.all (fun y => y.good && y.cells.length == sz) = true → ∃ vs, Src P w ι (fzOf ι H.l w) sz cx ys vs := fun hg => src_slice hr hx h hg

theorem foldlM_args {x : AV} {r : List AV} {v : AV} {fz : Fz} {mx : Bool} {args : List Value} (hv : VRels ι fz (x :: r) args) (h : mnmx mx x r = some v) :
    ∃ cv, ((if mx then Builtin.max_ else Builtin.min_) #[] 0 args.toArray).run P w = .ok cv w ∧ VRel ι fz v cv := by
  obtain ⟨u, us, rfl, h1, h2⟩ := VRels_cons_inv hv
  obtain ⟨cv, h3, h4⟩ := mnmx_sound (P := P) (w := w) mx h1 h2 h
  refine ⟨cv, ?_, h4⟩
  cases mx
  · simpa [Builtin.min_] using h3
  · simpa [Builtin.max_] using h3

theorem abuiltin_sound {c : Call} {b : Builtin} {o : Oper} {ao : AOp} {a : Act} {τ : List AV} {H : Hp} {v : AV} {H' : Option Hp} (ho : o.op = .call c) (hb : c.callee = .builtin b) (hp : pCall P c = some ao)
    (hr : RelH PC ι H.l w) (ht : VRels ι (fzOf ι H.l w) τ a.tmps.toList) (h : aop τ H ao = some (v, H')) : OkN P PC ι H.l w (execOp a.eval o) v (H'.getD H).l := by
  obtain ⟨callee, args, ats⟩ := c
  simp only at hb
  subst hb
  have hex : ∀ (s : Sem Value), builtin b ats o.type (args.map fun | .const _ => true | _ => false) (args.map a.eval) = (do Pure.pure (.value (← s))) →
      OkS P PC ι H.l w s v (H'.getD H).l → OkN P PC ι H.l w (execOp a.eval o) v (H'.getD H).l := by
    intro s e2 hok
    obtain ⟨cv, w', ι', nx, q1, q2, q3, q4, q5⟩ := hok.next
    refine ⟨cv, w', ι', nx, ?_, q2, q3, q4, q5⟩
    rw [← q1, ← e2]
    simp only [execOp, ho, resolve]
    rfl
  cases b <;> simp only [pCall] at hp
  case len =>
    split at hp
    case h_2 => simp at hp
    rename_i t x e1 e2
    have ea := args1 e2
    have et := args1 e1
    subst ea; subst et
    refine hex (Builtin.len_ #[t] o.type #[a.eval x]) (by rw [show Array.map a.eval #[x] = #[a.eval x] from by simp]; rfl) ?_
    split at hp
    · rename_i hu
      obtain ⟨y, hy, rfl⟩ := Option.map_eq_some_iff.1 hp
      have hv := aeval_rel ht hy
      simp only [aop] at h
      split at h
      · rename_i s hs
        rw [hs] at hv
        simp only [VRel] at hv
        simp only [Option.some.injEq, Prod.mk.injEq] at h
        obtain ⟨rfl, rfl⟩ := h
        rw [hv]
        exact OkS.of hr (len_str hu) (by simp only [VRel])
      · simp at h
    · rename_i e hu
      obtain ⟨y, hy, rfl⟩ := Option.map_eq_some_iff.1 hp
      have hv := aeval_rel ht hy
      simp only [aop] at h
      obtain ⟨n, hn, h⟩ := Option.map_eq_some_iff.1 h
      simp only [Prod.mk.injEq] at h
      obtain ⟨rfl, rfl⟩ := h
      exact OkS.of hr (asLen_sound hu hv hn) (by simp only [VRel])
    · rename_i kt e hu
      obtain ⟨y, hy, rfl⟩ := Option.map_eq_some_iff.1 hp
      have hv := aeval_rel ht hy
      simp only [aop] at h
      obtain ⟨u, k1, h⟩ := Option.map_eq_some_iff.1 h
      simp only [Prod.mk.injEq] at h
      obtain ⟨rfl, rfl⟩ := h
      exact OkS.of' hr (lenm_sound hr hu hv k1)
    · simp at hp
  case append =>
    split at hp
    case h_2 => simp at hp
    rename_i t u s x e1 e2
    have ea := args2 e2
    have et := args2 e1
    subst ea; subst et
    refine hex (Builtin.append_ #[t, u] o.type #[a.eval s, a.eval x]) (by rw [show Array.map a.eval #[s, x] = #[a.eval s, a.eval x] from by simp]; rfl) ?_
    split at hp
    · rename_i e e' hu hu2
      simp only [Option.bind_eq_bind, Option.pure_def] at hp
      obtain ⟨i, hi, hp⟩ := Option.bind_eq_some_iff.1 hp
      obtain ⟨z, hz, hp⟩ := Option.bind_eq_some_iff.1 hp
      split at hp
      · simp at hp
      · rename_i hc
        obtain ⟨ys, hs, hp⟩ := Option.bind_eq_some_iff.1 hp
        obtain ⟨yx, hx, hp⟩ := Option.bind_eq_some_iff.1 hp
        simp only [Option.some.injEq] at hp; subst hp
        simp only [aop] at h
        obtain ⟨es, hes, h⟩ := Option.bind_eq_some_iff.1 h
        simp only [not_or] at hc
        exact aappend_sound hr hu (.inl ⟨_, hu2⟩) hi hz hc.1 hc.2.1 (by simpa using hc.2.2) (aeval_rel ht hs) (src_of_elems hr (aeval_rel ht hx) hes) h
    · rename_i e hu hu2
      simp only [Option.bind_eq_bind, Option.pure_def] at hp
      obtain ⟨i, hi, hp⟩ := Option.bind_eq_some_iff.1 hp
      obtain ⟨z, hz, hp⟩ := Option.bind_eq_some_iff.1 hp
      split at hp
      · simp at hp
      · rename_i hc
        obtain ⟨ys, hs, hp⟩ := Option.bind_eq_some_iff.1 hp
        obtain ⟨yx, hx, hp⟩ := Option.bind_eq_some_iff.1 hp
        simp only [Option.some.injEq] at hp; subst hp
        simp only [aop] at h
        obtain ⟨es, hes, h⟩ := Option.bind_eq_some_iff.1 h
        simp only [not_or, Decidable.not_not] at hc
        have hv := aeval_rel ht hx
        unfold srcStr at hes
        split at hes
        · rename_i q hq
          rw [hq] at hv
          simp only [VRel] at hv
          simp only [Option.some.injEq] at hes; subst hes
          rw [hv]
          exact aappend_sound hr hu (.inr hu2) hi hz (by omega) hc.2.1 (by simpa using hc.2.2) (aeval_rel ht hs) (fun _ => by rw [hc.1]; exact ⟨_, src_str q⟩) h
        · simp at hes
    · simp at hp
  case delete =>
    split at hp
    case h_2 => simp at hp
    rename_i t r m k e1 e2
    have ea := args2 e2
    subst ea
    have et : ats[0]? = some t := by rw [← Array.getElem?_toList, e1]; rfl
    refine hex (Builtin.delete_ ats o.type #[a.eval m, a.eval k]) (by rw [show Array.map a.eval #[m, k] = #[a.eval m, a.eval k] from by simp]; rfl) ?_
    split at hp
    · rename_i kt e hu
      simp only [Option.bind_eq_bind, Option.pure_def] at hp
      obtain ⟨kd, hkd, hp⟩ := Option.bind_eq_some_iff.1 hp
      obtain ⟨ym, hm, hp⟩ := Option.bind_eq_some_iff.1 hp
      obtain ⟨yk, hk, hp⟩ := Option.bind_eq_some_iff.1 hp
      simp only [Option.some.injEq] at hp; subst hp
      simp only [aop] at h
      obtain ⟨kv, hkv, h⟩ := Option.bind_eq_some_iff.1 h
      obtain ⟨e1, hok⟩ := asKey_form (aeval_rel ht hk) hkv
      obtain ⟨q, k1, h⟩ := Option.map_eq_some_iff.1 h
      simp only [Prod.mk.injEq] at h
      obtain ⟨rfl, rfl⟩ := h
      rw [e1]
      exact delete_sound ats et hr hu hkd hok (aeval_rel ht hm) k1
    · simp at hp
  case clear =>
    split at hp
    case h_2 => simp at hp
    rename_i t x e1 e2
    have ea := args1 e2
    have et := args1 e1
    subst ea; subst et
    refine hex (Builtin.clear_ #[t] o.type #[a.eval x]) (by rw [show Array.map a.eval #[x] = #[a.eval x] from by simp]; rfl) ?_
    split at hp
    · rename_i e hu
      simp only [Option.bind_eq_bind, Option.pure_def] at hp
      obtain ⟨i, hi, hp⟩ := Option.bind_eq_some_iff.1 hp
      obtain ⟨z, hz, hp⟩ := Option.bind_eq_some_iff.1 hp
      split at hp
      · simp at hp
      · rename_i hc
        simp only [not_or, Decidable.not_not] at hc
        obtain ⟨yx, hx, hp⟩ := Option.bind_eq_some_iff.1 hp
        simp only [Option.some.injEq] at hp; subst hp
        simp only [aop] at h
        obtain ⟨q, k1, h⟩ := Option.map_eq_some_iff.1 h
        simp only [Prod.mk.injEq] at h
        obtain ⟨rfl, rfl⟩ := h
        exact clear_sound hr hu hi hz hc.1 hc.2 (aeval_rel ht hx) k1
    · simp at hp
  case min =>
    obtain ⟨ys, hys, rfl⟩ := Option.map_eq_some_iff.1 hp
    simp only [aop] at h
    have hv := aevals_rel ht hys
    refine hex (Builtin.min_ ats o.type (args.map a.eval)) rfl ?_
    split at h
    · simp at h
    · rename_i x r hxr
      obtain ⟨u, hu, h⟩ := Option.map_eq_some_iff.1 h
      simp only [Prod.mk.injEq] at h
      obtain ⟨rfl, rfl⟩ := h
      rw [hxr] at hv
      obtain ⟨cv, k1, k2⟩ := foldlM_args (P := P) (w := w) hv hu
      refine OkS.of hr (cv := cv) ?_ k2
      rw [← k1]
      simp only [Bool.false_eq_true, if_false]
      congr 1
      simp only [Builtin.min_]
      congr 1
      simp
  case max =>
    obtain ⟨ys, hys, rfl⟩ := Option.map_eq_some_iff.1 hp
    simp only [aop] at h
    have hv := aevals_rel ht hys
    refine hex (Builtin.max_ ats o.type (args.map a.eval)) rfl ?_
    split at h
    · simp at h
    · rename_i x r hxr
      obtain ⟨u, hu, h⟩ := Option.map_eq_some_iff.1 h
      simp only [Prod.mk.injEq] at h
      obtain ⟨rfl, rfl⟩ := h
      rw [hxr] at hv
      obtain ⟨cv, k1, k2⟩ := foldlM_args (P := P) (w := w) hv hu
      refine OkS.of hr (cv := cv) ?_ k2
      rw [← k1]
      simp only [if_true]
      congr 1
      simp only [Builtin.max_]
      congr 1
      simp
  all_goals simp at hp
end
end Go.Proofs.Eng
