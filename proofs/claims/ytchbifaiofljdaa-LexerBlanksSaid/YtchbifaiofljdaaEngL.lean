/- The engine, part L: maps. -/
import Derived.Test.YtchbifaiofljdaaEngK
set_option linter.unusedVariables false
set_option linter.unusedSimpArgs false
namespace Go.Proofs.Eng
open Go Go.RowKit

section
variable {P : Program} {PC : Code → AC → Prop} {ι : List Pl} {w : World} {fz : Fz}

theorem kSame_sound {kd : TypeDesc} {k e : Value} {b : Bool} (h : kSame kd k e = some b) : Instr.sameNow kd k e = some b := by
  unfold kSame at h
  unfold Instr.sameNow
  split at h
  · exact h
  · simp only [Option.some.injEq] at h ⊢
    rw [beq_toListBytes, toList_eq_bl, toList_eq_bl]; exact h
  · exact h
  · simp at h

theorem kSame_bits {kd : TypeDesc} {k e : Value} (h : kSame kd k e = some true) (n : Nat) : Instr.sameBits n e k = true := by
  unfold kSame at h
  split at h
  · split at h
    · rename_i hk; subst hk
      simp at h; subst h
      simp [Instr.sameBits]
    · simp at h
  · simp at h
    rename_i a b
    have : a = b := by
      have := congrArg mkS h
      simpa using this
    subst this
    simp only [Instr.sameBits, beq_toListBytes, beq_self_eq_true]
  · simp at h; subst h; simp [Instr.sameBits]
  · simp at h

theorem run_checkKey' {t : TypeId} {kd : TypeDesc} {k : Value} (ht : P.underlying t = some kd) (h : kOk kd k = true) (b : Bool) (n : Nat) : (Instr.checkKey b (n + 1) t k).run P w = .ok () w := by
  unfold kOk at h
  split at h
  · simp [Instr.checkKey, run_underlying' ht]
  · simp [Instr.checkKey, run_underlying' ht]
  · simp [Instr.checkKey, run_underlying' ht]
  · simp at h

theorem kFind_none {kd : TypeDesc} {k : Value} : ∀ {es : List (Value × AV × Nat)} {ces : List MapEntry} (i : Nat), MRel ι fz es ces → kFind kd k es = some none → Instr.findNow kd k ces i = some none
  | [], ces, i, h, _ => by simp only [MRel] at h; subst h; rfl
  | e :: es, ces, i, h, hf => by
    obtain ⟨c, r, rfl, h1, h2, h3, h4⟩ := h
    simp only [kFind] at hf
    split at hf
    · simp at hf
    · rename_i hs
      simp only [Instr.findNow, h1, kSame_sound hs]
      refine kFind_none (i + 1) h4 ?_
      cases hk : kFind kd k es with
      | none => rw [hk] at hf; simp at hf
      | some q => rw [hk] at hf; simp at hf; cases q <;> simp at hf; rfl
    · simp at hf

theorem kFind_some {kd : TypeDesc} {k : Value} : ∀ {es : List (Value × AV × Nat)} {ces : List MapEntry} {j : Nat} {v : AV} (i : Nat), MRel ι fz es ces → kFind kd k es = some (some (j, v)) →
    ∃ c q, ces[j]? = some c ∧ es[j]? = some q ∧ c.key = q.1 ∧ c.born = q.2.2 ∧ q.2.1 = v ∧ VRel ι fz v c.val ∧ kSame kd k q.1 = some true ∧ Instr.findNow kd k ces i = some (some (i + j, c.val))
  | [], ces, j, v, i, h, hf => by simp [kFind] at hf
  | e :: es, ces, j, v, i, h, hf => by
    obtain ⟨c, r, rfl, h1, h2, h3, h4⟩ := h
    simp only [kFind] at hf
    split at hf
    · rename_i hs
      simp at hf
      obtain ⟨rfl, rfl⟩ := hf
      exact ⟨c, e, by simp, by simp, h1, h2, rfl, h3, hs, by simp [Instr.findNow, h1, kSame_sound hs]⟩
    · rename_i hs
      cases hk : kFind kd k es with
      | none => rw [hk] at hf; simp at hf
      | some q =>
        rw [hk] at hf
        simp at hf
        cases q with
        | none => simp at hf
        | some q =>
          simp at hf
          obtain ⟨w0, rfl, rfl⟩ := hf
          obtain ⟨c', q', a1, a2, a3, a4, a5, a6, a7, a8⟩ := kFind_some (i + 1) h4 hk
          refine ⟨c', q', by simpa using a1, by simpa using a2, a3, a4, a5, a6, a7, ?_⟩
          simp only [Instr.findNow, h1, kSame_sound hs, a8]
          congr 3; omega
    · simp at hf

theorem MRel.length : ∀ {es : List (Value × AV × Nat)} {ces : List MapEntry}, MRel ι fz es ces → es.length = ces.length
  | [], ces, h => by simp only [MRel] at h; subst h; rfl
  | e :: es, ces, h => by
    obtain ⟨c, r, rfl, h1, h2, h3, h4⟩ := h
    simp [h4.length]

theorem MRel.push : ∀ {es : List (Value × AV × Nat)} {ces : List MapEntry} {k : Value} {v : AV} {cv : Value} {n : Nat}, MRel ι fz es ces → VRel ι fz v cv → MRel ι fz (es ++ [(k, v, n)]) (ces ++ [{ key := k, val := cv, born := n }])
  | [], ces, k, v, cv, n, h, hv => by
    simp only [MRel] at h; subst h
    exact ⟨_, _, rfl, rfl, rfl, hv, rfl⟩
  | e :: es, ces, k, v, cv, n, h, hv => by
    obtain ⟨c, r, rfl, h1, h2, h3, h4⟩ := h
    exact ⟨c, _, rfl, h1, h2, h3, h4.push hv⟩

theorem MRel.modify : ∀ {es : List (Value × AV × Nat)} {ces : List MapEntry} {k : Value} {v : AV} {cv : Value} (j : Nat), MRel ι fz es ces → VRel ι fz v cv →
    MRel ι fz (es.modify j fun e => (k, v, e.2.2)) (ces.modify j fun e => { e with key := k, val := cv })
  | [], ces, k, v, cv, j, h, hv => by simp only [MRel] at h; subst h; simp [MRel]
  | e :: es, ces, k, v, cv, 0, h, hv => by
    obtain ⟨c, r, rfl, h1, h2, h3, h4⟩ := h
    simp only [List.modify_zero_cons]
    exact ⟨_, _, rfl, rfl, h2, hv, h4⟩
  | e :: es, ces, k, v, cv, j + 1, h, hv => by
    obtain ⟨c, r, rfl, h1, h2, h3, h4⟩ := h
    simp only [List.modify_succ_cons]
    exact ⟨c, _, rfl, h1, h2, h3, h4.modify j hv⟩

theorem MRel.erase : ∀ {es : List (Value × AV × Nat)} {ces : List MapEntry} (j : Nat), MRel ι fz es ces → MRel ι fz (es.eraseIdx j) (ces.eraseIdx j)
  | [], ces, j, h => by simp only [MRel] at h; subst h; simp [MRel]
  | e :: es, ces, 0, h => by
    obtain ⟨c, r, rfl, h1, h2, h3, h4⟩ := h
    simpa using h4
  | e :: es, ces, j + 1, h => by
    obtain ⟨c, r, rfl, h1, h2, h3, h4⟩ := h
    simp only [List.eraseIdx_cons_succ]
    exact ⟨c, _, rfl, h1, h2, h3, h4.erase j⟩

/-- The block of a map. -/
theorem map_at {H : Hp} {id : Nat} {es : List (Value × AV × Nat)} {clk : Nat} {m : AV} {cm : Value} (hr : RelH PC ι H.l w) (hm : VRel ι (fzOf ι H.l w) (.map id) cm) (ho : hget H id = some (.map es clk)) :
    ∃ p ces, ι[id]? = some p ∧ cm = .map (some p.blk) ∧ w.heap[p.blk]? = some (.map ces clk) ∧ MRel ι (fzOf ι H.l w) es ces.toList := by
  simp only [VRel] at hm
  obtain ⟨p, hp, rfl⟩ := hm
  obtain ⟨ces, h1, h2⟩ := hr.obj _ _ _ (hget_some ho) hp
  exact ⟨p, ces, hp, rfl, h1, h2⟩

theorem run_getMap {r : Nat} {es : Array MapEntry} {clk : Nat} (h : w.heap[r]? = some (.map es clk)) : (getObj r).run P w = .ok (.map es clk) w := by
  simp [getObj, Sem.run, h]

def setObjW (w : World) (r : Nat) (o : Obj) : World := { w with heap := w.heap.setIfInBounds r o }
theorem run_setMap {r : Nat} {es : Array MapEntry} {clk : Nat} {o : Obj} (h : w.heap[r]? = some (.map es clk)) : (setObj r o).run P w = .ok () (setObjW w r o) := by
  simp [setObj, Sem.run, h, setObjW]
theorem setObjW_same {r : Nat} {o : Obj} (h : r < w.heap.size) : (setObjW w r o).heap[r]? = some o := by simp [setObjW, h]
theorem setObjW_other {r k : Nat} {o : Obj} (h : k ≠ r) : (setObjW w r o).heap[k]? = w.heap[k]? := by
  simp only [setObjW]
  rw [Array.getElem?_setIfInBounds_ne (by omega)]

/-- A map's block written. -/
theorem map_put {H : Hp} {id : Nat} {es es' : List (Value × AV × Nat)} {clk clk' : Nat} {p : Pl} {ces ces' : Array MapEntry} (hr : RelH PC ι H.l w) (ho : hget H id = some (.map es clk)) (hp : ι[id]? = some p)
    (hb : w.heap[p.blk]? = some (.map ces clk)) (hm : MRel ι (fzOf ι H.l w) es' ces'.toList) :
    RelH PC ι (H.l.set id (some (.map es' clk'))) (setObjW w p.blk (.map ces' clk')) ∧ Stp ι H.l w ι (H.l.set id (some (.map es' clk'))) (setObjW w p.blk (.map ces' clk')) := by
  have hlt := (Array.getElem?_eq_some_iff.1 hb).1
  exact hr.set (o' := .map es' clk') (hget_some ho) hp rfl rfl rfl (by simp [setObjW]) (fun k _ hne => setObjW_other hne) (fun hle => ⟨ces', setObjW_same hlt, hm.mono (List.prefix_refl _) hle⟩)

theorem lookup_sound {H : Hp} {t kt e : TypeId} {kd : TypeDesc} {z : Value} {k : Value} {m v : AV} {cm : Value} {ok : Bool} (hr : RelH PC ι H.l w) (ht : P.underlying t = some (.map kt e)) (hk : P.underlying kt = some kd)
    (hz : pZero P e = some z) (hok : kOk kd k = true) (hm : VRel ι (fzOf ι H.l w) m cm) (h : aLookup H kd (AV.ofV z) ok k m = some v) :
    ∃ cv, (Instr.lookup t cm k ok).run P w = .ok cv w ∧ VRel ι (fzOf ι H.l w) v cv := by
  have fin : ∀ (x : AV) (cx : Value) (b : Bool), VRel ι (fzOf ι H.l w) x cx → VRel ι (fzOf ι H.l w) (if ok then .tup [x, avBool b] else x) (if ok then .tuple #[cx, .bool b] else cx) := by
    intro x cx b hx
    cases ok
    · simpa using hx
    · simp only [if_true, VRel]
      exact ⟨_, rfl, by simp [hx, VRel]⟩
  unfold aLookup at h
  split at h
  · simp only [VRel] at hm; subst hm
    simp only [Option.some.injEq] at h; subst h
    exact ⟨_, by simp [Instr.lookup, run_underlying' ht, run_checkKey' hk hok, Instr.findKey, run_underlying' hk, Instr.findNow, run_zero' hz], fin _ _ _ (VRel_ofV z)⟩
  · rename_i id
    split at h
    case h_2 => simp at h
    rename_i es clk ho
    obtain ⟨p, ces, hp, rfl, hb, hM⟩ := map_at (m := .map id) hr hm ho
    split at h
    · rename_i q hq
      obtain ⟨j, x⟩ := q
      simp only [Option.some.injEq] at h; subst h
      obtain ⟨c, q', a1, a2, a3, a4, a5, a6, a7, a8⟩ := kFind_some 0 hM hq
      exact ⟨_, by simp [Instr.lookup, run_underlying' ht, run_getMap hb, run_checkKey' hk hok, Instr.findKey, run_underlying' hk, a8], fin _ _ _ a6⟩
    · rename_i hq
      simp only [Option.some.injEq] at h; subst h
      have := kFind_none 0 hM hq
      exact ⟨_, by simp [Instr.lookup, run_underlying' ht, run_getMap hb, run_checkKey' hk hok, Instr.findKey, run_underlying' hk, this, run_zero' hz], fin _ _ _ (VRel_ofV z)⟩
    · simp at h
  · simp at h

theorem mapupd_sound {H H' : Hp} {t kt e : TypeId} {kd : TypeDesc} {k : Value} {v m : AV} {cm cv : Value} (hr : RelH PC ι H.l w) (ht : P.underlying t = some (.map kt e)) (hk : P.underlying kt = some kd)
    (hok : kOk kd k = true) (hm : VRel ι (fzOf ι H.l w) m cm) (hv : VRel ι (fzOf ι H.l w) v cv) (h : aMapupd H kd k v m = some H') :
    ∃ w', (Instr.mapUpdate t cm k cv).run P w = .ok () w' ∧ Stp ι H.l w ι H'.l w' ∧ RelH PC ι H'.l w' := by
  unfold aMapupd at h
  split at h
  case h_2 => simp at h
  rename_i id
  split at h
  case h_2 => simp at h
  rename_i es clk ho
  obtain ⟨q, hq, rfl⟩ := Option.map_eq_some_iff.1 h
  obtain ⟨es', clk'⟩ := q
  obtain ⟨p, ces, hp, rfl, hb, hM⟩ := map_at (m := .map id) hr hm ho
  unfold mPut at hq
  split at hq
  · rename_i q hf
    obtain ⟨j, x⟩ := q
    simp only [Option.some.injEq, Prod.mk.injEq] at hq
    obtain ⟨rfl, rfl⟩ := hq
    obtain ⟨c, q', a1, a2, a3, a4, a5, a6, a7, a8⟩ := kFind_some 0 hM hf
    have a1' : ces[j]? = some c := by rw [← Array.getElem?_toList]; exact a1
    obtain ⟨r1, r2⟩ := map_put (clk' := clk) (es' := es.modify j fun e => (k, v, e.2.2)) (ces' := ces.modify j fun e => { e with key := k, val := cv }) hr ho hp hb (by rw [Array.toList_modify]; exact hM.modify j hv)
    refine ⟨_, ?_, r2, r1⟩
    have hbits := kSame_bits a7 10000
    rw [← a3] at hbits
    simp [Instr.mapUpdate, run_underlying' ht, run_getMap hb, run_checkKey' hk hok, Instr.findKey, run_underlying' hk, a8, a1', Instr.keyThatStays, hbits, run_setMap hb]
  · rename_i hf
    simp only [Option.some.injEq, Prod.mk.injEq] at hq
    obtain ⟨rfl, rfl⟩ := hq
    have := kFind_none 0 hM hf
    obtain ⟨r1, r2⟩ := map_put (clk' := clk + 1) (es' := es ++ [(k, v, clk)]) (ces' := ces.push { key := k, val := cv, born := clk }) hr ho hp hb (by rw [Array.toList_push]; exact hM.push hv)
    refine ⟨_, ?_, r2, r1⟩
    simp [Instr.mapUpdate, run_underlying' ht, run_getMap hb, run_checkKey' hk hok, Instr.findKey, run_underlying' hk, this, run_setMap hb]
  · simp at hq

theorem delete_sound {H : Hp} {t ty kt e : TypeId} {kd : TypeDesc} {k : Value} {m : AV} {cm : Value} {H' : Option Hp} (ats : Array TypeId) (h0 : ats[0]? = some t) (hr : RelH PC ι H.l w) (ht : P.underlying t = some (.map kt e)) (hk : P.underlying kt = some kd)
    (hok : kOk kd k = true) (hm : VRel ι (fzOf ι H.l w) m cm) (h : aDelete H kd k m = some H') :
    OkS P PC ι H.l w (Builtin.delete_ ats ty #[cm, k]) avU (H'.getD H).l := by
  unfold aDelete at h
  split at h
  · simp only [VRel] at hm; subst hm
    simp only [Option.some.injEq] at h; subst h
    exact OkS.of (cv := .tuple #[]) hr (by simp [Builtin.delete_, h0, run_underlying' ht, run_checkKey' hk hok]) (by simp only [VRel])
  · rename_i id
    split at h
    case h_2 => simp at h
    rename_i es clk ho
    obtain ⟨p, ces, hp, rfl, hb, hM⟩ := map_at (m := .map id) hr hm ho
    split at h
    · rename_i q hq
      obtain ⟨j, x⟩ := q
      simp only [Option.some.injEq] at h; subst h
      obtain ⟨c, q', a1, a2, a3, a4, a5, a6, a7, a8⟩ := kFind_some 0 hM hq
      obtain ⟨r1, r2⟩ := map_put (clk' := clk) (es' := es.eraseIdx j) (ces' := ces.eraseIdxIfInBounds j) hr ho hp hb (by
        have hj : j < ces.size := by have := (List.getElem?_eq_some_iff.1 a1).1; simpa using this
        simp only [Array.eraseIdxIfInBounds, hj, dif_pos, Array.toList_eraseIdx]
        exact hM.erase j)
      exact ⟨.tuple #[], _, _, by simp [Builtin.delete_, h0, run_underlying' ht, run_getMap hb, run_checkKey' hk hok, Instr.findKey, run_underlying' hk, a8, run_setMap hb], r2, r1, by simp only [VRel]⟩
    · rename_i hq
      simp only [Option.some.injEq] at h; subst h
      have := kFind_none 0 hM hq
      obtain ⟨r1, r2⟩ := map_put (clk' := clk) (es' := es) (ces' := ces) hr ho hp hb hM
      exact ⟨.tuple #[], _, _, by simp [Builtin.delete_, h0, run_underlying' ht, run_getMap hb, run_checkKey' hk hok, Instr.findKey, run_underlying' hk, this, run_setMap hb], r2, r1, by simp only [VRel]⟩
    · simp at h
  · simp at h

theorem lenm_sound {H : Hp} {t kt e ty : TypeId} {m v : AV} {cm : Value} (hr : RelH PC ι H.l w) (ht : P.underlying t = some (.map kt e)) (hm : VRel ι (fzOf ι H.l w) m cm) (h : aLenm H m = some v) :
    ∃ cv, (Builtin.len_ #[t] ty #[cm]).run P w = .ok cv w ∧ VRel ι (fzOf ι H.l w) v cv := by
  unfold aLenm at h
  split at h
  · simp only [VRel] at hm; subst hm
    simp only [Option.some.injEq] at h; subst h
    exact ⟨.int .i64 0, by simp [Builtin.len_, run_underlying' ht, goInt], by simp only [VRel]⟩
  · rename_i id
    split at h
    case h_2 => simp at h
    rename_i es clk ho
    simp only [Option.some.injEq] at h; subst h
    obtain ⟨p, ces, hp, rfl, hb, hM⟩ := map_at (m := .map id) hr hm ho
    have hl := hM.length
    simp at hl
    exact ⟨.int .i64 ces.size, by simp [Builtin.len_, run_underlying' ht, run_getMap hb, goInt], by simp only [VRel, hl]⟩
  · simp at h

theorem asKey_form {kd : TypeDesc} {x : AV} {cx k : Value} (hx : VRel ι fz x cx) (h : asKey kd x = some k) : cx = k ∧ kOk kd k = true := by
  unfold asKey at h
  split at h
  · split at h
    · rename_i hok
      simp only [Option.some.injEq] at h; subst h
      simp only [VRel] at hx
      exact ⟨hx, hok⟩
    · simp at h
  · simp at h

theorem mkmap_sound {H : Hp} {t : TypeId} (hr : RelH PC ι H.l w) : OkS P PC ι H.l w (Instr.makeMap t none) (.map H.l.length) (halloc H (.map [] 0)).l := by
  obtain ⟨r1, r2⟩ := hr.alloc (.map #[] 0) ⟨w.heap.size, 0, 0, 0⟩ (.map [] 0) rfl ⟨#[], alloc_heap_new w _, rfl⟩
  refine ⟨.map (some w.heap.size), _, _, ?_, r2, r1, ?_⟩
  · simp only [Instr.makeMap, Sem.run_bind, run_newObj, Result.andThen_ok, Sem.run_pure]
    rfl
  · simp only [VRel]
    exact ⟨⟨w.heap.size, 0, 0, 0⟩, by rw [← hr.len]; simp, rfl⟩
end
end Go.Proofs.Eng
