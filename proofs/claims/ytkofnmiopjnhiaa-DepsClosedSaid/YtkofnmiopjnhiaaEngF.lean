/- The engine, part F: loading, storing, boxes, structs and rows that are written out. -/
import Derived.Test.YtkofnmiopjnhiaaEngE
set_option linter.unusedVariables false
set_option linter.unusedSimpArgs false
namespace Go.Proofs.Eng
open Go Go.RowKit

/-! ### Lists -/
theorem setFrom_length {α : Type} : ∀ (xs cs : List α) (off : Nat), (setFrom cs off xs).length = cs.length
  | [], cs, off => rfl
  | x :: xs, cs, off => by simp [setFrom, setFrom_length xs]

theorem setFrom_get {α : Type} : ∀ (xs cs : List α) (off i : Nat), off + xs.length ≤ cs.length → (setFrom cs off xs)[i]? = if off ≤ i ∧ i < off + xs.length then xs[i - off]? else cs[i]?
  | [], cs, off, i, h => by simp [setFrom]; omega
  | x :: xs, cs, off, i, h => by
    simp only [setFrom]
    rw [setFrom_get xs _ _ _ (by simp at h ⊢; omega)]
    simp only [List.length_cons] at h ⊢
    by_cases h1 : off + 1 ≤ i ∧ i < off + 1 + xs.length
    · rw [if_pos h1, if_pos (by omega)]
      have : i - off = (i - (off + 1)) + 1 := by omega
      rw [this, List.getElem?_cons_succ]
    · rw [if_neg h1]
      by_cases h2 : i = off
      · subst h2
        rw [if_pos (by omega)]
        simp [List.getElem?_set, show i < cs.length by omega]
      · rw [if_neg (by omega), List.getElem?_set_ne (by omega)]

theorem VRels.setFrom {ι : Io} {fz : Fz} : ∀ {ys : List AV} {us : List Value}, VRels ι fz ys us → ∀ {xs : List AV} {vs : List Value} (off : Nat), VRels ι fz xs vs →
    VRels ι fz (Eng.setFrom xs off ys) (Eng.setFrom vs off us)
  | [], us, h, xs, vs, off, k => by simp at h; subst h; simpa [Eng.setFrom] using k
  | y :: ys, us, h, xs, vs, off, k => by
    obtain ⟨u, us', rfl, h1, h2⟩ := VRels_cons_inv h
    simp only [Eng.setFrom]
    exact h2.setFrom (off + 1) (k.set off h1)

theorem flat_length {sz : Nat} : ∀ {vs : List Value}, (∀ u ∈ vs, u.cells.size = sz) → (flat vs).length = vs.length * sz
  | [], _ => by simp [flat]
  | v :: vs, h => by
    have := flat_length (vs := vs) (fun u hu => h u (by simp [hu]))
    simp only [flat, List.flatMap_cons, List.length_append, Array.length_toList, List.length_cons] at this ⊢
    rw [h v (by simp), this, Nat.add_mul]; omega

theorem flat_get {sz : Nat} : ∀ {vs : List Value}, (∀ u ∈ vs, u.cells.size = sz) → ∀ {idx : Nat} {u : Value}, vs[idx]? = some u → ∀ j, j < sz → (flat vs)[idx * sz + j]? = u.cells.toList[j]?
  | [], _, idx, u, h, j, hj => by simp at h
  | v :: vs, hs, 0, u, h, j, hj => by
    simp at h; subst h
    have := hs v (by simp)
    simp only [flat, List.flatMap_cons, Nat.zero_mul, Nat.zero_add]
    rw [List.getElem?_append_left (by simp; omega)]
  | v :: vs, hs, idx + 1, u, h, j, hj => by
    simp at h
    have ih := flat_get (vs := vs) (fun u hu => hs u (by simp [hu])) h j hj
    have hv := hs v (by simp)
    simp only [flat, List.flatMap_cons] at ih ⊢
    rw [List.getElem?_append_right (by simp [Nat.add_mul]; omega)]
    have e : (idx + 1) * sz + j - v.cells.toList.length = idx * sz + j := by simp [hv, Nat.add_mul]; omega
    rw [e]; exact ih

theorem flat_append (a b : List Value) : flat (a ++ b) = flat a ++ flat b := by simp [flat]

theorem flat_drop {sz : Nat} : ∀ {vs : List Value}, (∀ u ∈ vs, u.cells.size = sz) → ∀ n, flat (vs.drop n) = (flat vs).drop (n * sz)
  | [], _, n => by simp [flat]
  | v :: vs, h, 0 => by simp
  | v :: vs, h, n + 1 => by
    have ih := flat_drop (vs := vs) (fun u hu => h u (by simp [hu])) n
    have hv := h v (by simp)
    simp only [flat, List.drop_succ_cons, List.flatMap_cons] at ih ⊢
    rw [ih, List.drop_append]
    have e1 : List.drop ((n + 1) * sz) v.cells.toList = [] := List.drop_eq_nil_of_le (by simp [hv, Nat.add_mul])
    have e2 : (n + 1) * sz - v.cells.toList.length = n * sz := by simp [hv, Nat.add_mul]
    rw [e1, e2]; simp

theorem flat_take {sz : Nat} : ∀ {vs : List Value}, (∀ u ∈ vs, u.cells.size = sz) → ∀ n, flat (vs.take n) = (flat vs).take (n * sz)
  | [], _, n => by simp [flat]
  | v :: vs, h, 0 => by simp [flat]
  | v :: vs, h, n + 1 => by
    have ih := flat_take (vs := vs) (fun u hu => h u (by simp [hu])) n
    have hv := h v (by simp)
    simp only [flat, List.take_succ_cons, List.flatMap_cons] at ih ⊢
    rw [ih, List.take_append]
    have e1 : List.take ((n + 1) * sz) v.cells.toList = v.cells.toList := List.take_of_length_le (by simp [hv, Nat.add_mul])
    have e2 : (n + 1) * sz - v.cells.toList.length = n * sz := by simp [hv, Nat.add_mul]
    rw [e1, e2]

theorem flat_set {sz : Nat} {vs : List Value} (hs : ∀ u ∈ vs, u.cells.size = sz) {idx : Nat} {u v : Value} (hu : vs[idx]? = some u) (hv : v.cells.size = sz) :
    flat (vs.set idx v) = setFrom (flat vs) (idx * sz) v.cells.toList := by
  have hlt : idx < vs.length := (List.getElem?_eq_some_iff.1 hu).1
  have hs' : ∀ x ∈ vs.set idx v, x.cells.size = sz := by
    intro x hx
    rcases List.mem_or_eq_of_mem_set hx with h | h
    · exact hs x h
    · rw [h]; exact hv
  have hb : idx * sz + sz ≤ vs.length * sz := by
    have : (idx + 1) * sz ≤ vs.length * sz := Nat.mul_le_mul_right _ hlt
    rw [Nat.add_mul] at this; omega
  apply List.ext_getElem?
  intro i
  rw [setFrom_get _ _ _ _ (by simp [flat_length hs, hv]; exact hb)]
  by_cases hsz : sz = 0
  · subst hsz
    have e1 : (flat (vs.set idx v)).length = 0 := by rw [flat_length hs']; simp
    have e2 : (flat vs).length = 0 := by rw [flat_length hs]; simp
    rw [if_neg (by simp [hv] <;> omega)]
    rw [List.getElem?_eq_none (by omega), List.getElem?_eq_none (by omega)]
  · have hsz : 0 < sz := by omega
    by_cases hi : i < vs.length * sz
    · have hq : i / sz < vs.length := Nat.div_lt_of_lt_mul (by rw [Nat.mul_comm]; exact hi)
      have hm : i % sz < sz := Nat.mod_lt _ hsz
      have he : i / sz * sz + i % sz = i := by rw [Nat.mul_comm]; exact Nat.div_add_mod i sz
      by_cases hqi : i / sz = idx
      · have h1 : (vs.set idx v)[i / sz]? = some v := by rw [hqi]; simp [hlt]
        have := flat_get hs' h1 (i % sz) hm
        rw [he] at this
        have e3 : idx * sz ≤ i ∧ i < idx * sz + v.cells.toList.length := by rw [← hqi]; simp only [Array.length_toList, hv]; omega
        rw [this, if_pos e3]
        congr 1
        rw [← hqi]; omega
      · have h1 : (vs.set idx v)[i / sz]? = some vs[i / sz] := by rw [List.getElem?_set_ne (by omega)]; exact List.getElem?_eq_getElem hq
        have h2 := flat_get hs' h1 (i % sz) hm
        have h3 := flat_get hs (List.getElem?_eq_getElem hq) (i % sz) hm
        rw [he] at h2 h3
        rw [h2, ← h3, if_neg]
        simp only [Array.length_toList, hv]
        intro hc
        apply hqi
        have a1 : idx ≤ i / sz := (Nat.le_div_iff_mul_le hsz).2 hc.1
        have a2 : i / sz < idx + 1 := by
          rw [Nat.div_lt_iff_lt_mul hsz, Nat.add_mul]; omega
        omega
    · have e1 : (flat (vs.set idx v)).length = vs.length * sz := by rw [flat_length hs']; simp
      have e2 : (flat vs).length = vs.length * sz := flat_length hs
      rw [if_neg (by simp [hv]; omega)]
      rw [List.getElem?_eq_none (by omega), List.getElem?_eq_none (by omega)]

/-! ### Types -/
section
variable {P : Program} {w : World}

theorem run_sizeOf' {t : TypeId} {n : Nat} (h : pSize P t = some n) : (sizeOf t).run P w = .ok n w := by
  unfold pSize at h
  obtain ⟨i, hi, rfl⟩ := Option.map_eq_some_iff.1 h
  simp [sizeOf, typeInfo, hi]

theorem run_underlying' {t : TypeId} {d : TypeDesc} (h : P.underlying t = some d) : (underlying t).run P w = .ok d w := by
  simp [underlying, h]

theorem run_zero' {t : TypeId} {v : Value} (h : pZero P t = some v) : (zeroValue t).run P w = .ok v w := by
  unfold pZero at h
  obtain ⟨i, hi, hz⟩ := Option.bind_eq_some_iff.1 h
  simp [zeroValue, typeInfo, hi, hz]

theorem run_isAgg_some {t : TypeId} {n : Nat} (h : pLay P t = some (some n)) : (isAgg t).run P w = .ok true w ∧ (sizeOf t).run P w = .ok n w := by
  unfold pLay at h
  split at h
  · rename_i i fs hi hu
    simp at h; subst h
    exact ⟨by simp [isAgg, underlying, hu], by simp [sizeOf, typeInfo, hi]⟩
  · rename_i i l e hi hu
    simp at h; subst h
    exact ⟨by simp [isAgg, underlying, hu], by simp [sizeOf, typeInfo, hi]⟩
  · simp at h
  · simp at h

theorem run_isAgg_none {t : TypeId} (h : pLay P t = some none) : (isAgg t).run P w = .ok false w := by
  unfold pLay at h
  split at h
  · simp at h
  · simp at h
  · rename_i i d n1 n2 hi hu
    cases d with
    | struct fs => exact (n1 _ rfl).elim
    | array l e => exact (n2 _ _ rfl).elim
    | _ => simp [isAgg, underlying, hu]
  · simp at h
end

theorem addr_add (b o n : Nat) : (⟨b, o, none⟩ : Addr).add n = ⟨b, o + n, none⟩ := by unfold Addr.add; split <;> simp_all

theorem cell_of_row' {w : World} {b : Nat} {c : Array Value} {t : TypeId} {fr : Nat × Nat} (h : w.heap[b]? = some (.cells c t fr)) (o : Nat) : w.cell? ⟨b, o, none⟩ = c[o]? := by
  simp [World.cell?, h]

theorem fzc_cell {ι : Io} {L : HL} {w : World} {a : Addr} {v : Value} (h : fzc (fzOf ι L w) a = some v) : w.cell? a = some v := by
  unfold fzc at h
  split at h
  · simp at h
  · rename_i hs
    split at h
    · rename_i c t fr hk
      rw [fzOf_some'] at hk
      simp only [World.cell?, hk.2, if_neg hs]
      exact h
    · simp at h

/-! ### Loading -/
/-- A value is read off cells that lie in a row. -/
theorem loadC_sound {P : Program} {w : World} {ι : Io} {fz : Fz} {t : TypeId} {n : Option Nat} {xs : List AV} {vs : List Value} {ad : Addr} {v : AV}
    (hl : pLay P t = some n) (hr : VRels ι fz xs vs) (hc : ∀ j, j < vs.length → w.cell? (ad.add j) = vs[j]?) (h : loadC n xs = some v) :
    ∃ cv, (loadVar t ad).run P w = .ok cv w ∧ VRel ι fz v cv := by
  cases n with
  | none =>
    simp only [loadC] at h
    obtain ⟨u, hu, r⟩ := hr.get h
    have h0 := hc 0 (List.getElem?_eq_some_iff.1 hu).1
    rw [hu] at h0
    have e : ad.add 0 = ad := by simp [Addr.add]
    rw [e] at h0
    exact ⟨u, by simp [loadVar, run_isAgg_none hl, h0], r⟩
  | some k =>
    simp only [loadC] at h
    split at h
    · rename_i hk
      simp at h; subst h
      have hlen := hr.length
      have hrun := run_loadCells_list (P := P) w ad (vs.take k) (fun j v hj => by
        have hlt := (List.getElem?_eq_some_iff.1 hj).1
        simp only [List.length_take] at hlt
        rw [hc j (by omega)]
        rw [List.getElem?_take, if_pos (by omega)] at hj; exact hj)
      have hk2 : (vs.take k).length = k := by simp; omega
      rw [hk2] at hrun
      refine ⟨.agg (vs.take k).toArray, by simp [loadVar, (run_isAgg_some hl).1, (run_isAgg_some hl).2, hrun], ?_⟩
      simp only [VRel]
      exact ⟨_, rfl, by simpa using hr.take k⟩
    · simp at h

theorem aload_sound {P : Program} {PC : Code → AC → Prop} {ι : Io} {H : Hp} {w : World} {t : TypeId} {n : Option Nat} {x v : AV} {cx : Value} (hr : RelH PC ι H.l w) (hl : pLay P t = some n)
    (hx : VRel ι (fzOf ι H.l w) x cx) (h : aload H n x = some v) : ∃ cv, (Instr.loadAt t cx).run P w = .ok cv w ∧ VRel ι (fzOf ι H.l w) v cv := by
  unfold aload at h
  split at h
  · rename_i id off
    split at h
    · rename_i cs t' ho
      simp only [VRel] at hx
      obtain ⟨p, hp, rfl⟩ := hx
      have ho' : H.l[id]? = some (some (.cells cs t')) := by
        unfold hget at ho
        cases hh : H.l[id]? with
        | none => rw [hh] at ho; simp at ho
        | some q => rw [hh] at ho; simp at ho; rw [ho]
      have hob := hr.obj _ _ _ ho' hp
      obtain ⟨c, fr, hb, hf, hsh, hro, hv⟩ := hob
      obtain ⟨cv, h1, h2⟩ := loadC_sound (P := P) (w := w) (ad := ⟨p.blk, p.sh + off, none⟩) hl (hv.drop off) (fun j hj => by
        rw [addr_add, cell_of_row' hb, hsh]
        simp [Nat.add_assoc]) h
      exact ⟨cv, by simp [Instr.loadAt, Instr.sureAddr, h1], h2⟩
    · simp at h
  · rename_i id idx inner
    split at h
    · rename_i sz es t' ho
      simp only [VRel] at hx
      obtain ⟨p, hp, rfl⟩ := hx
      have ho' : H.l[id]? = some (some (.arr sz es t')) := by
        unfold hget at ho
        cases hh : H.l[id]? with
        | none => rw [hh] at ho; simp at ho
        | some q => rw [hh] at ho; simp at ho; rw [ho]
      have hob := hr.obj _ _ _ ho' hp
      obtain ⟨c, fr, vs, hb, hf, hro, hsz, hv, hcs, hfit, hlay⟩ := hob
      subst hsz
      split at h
      · rename_i e he
        split at h
        · rename_i hg
          obtain ⟨u, hu, r⟩ := hv.get he
          have hmem : u ∈ vs := List.mem_of_getElem? hu
          have hus := hcs u hmem
          have hcells := (r.cells hg).1
          have hec : e.cells.length = p.sz := by rw [hcells.length]; simp [hus]
          have hcell : ∀ j, j < p.sz → w.cell? ⟨p.blk, p.sh + idx * p.sz + j, none⟩ = u.cells.toList[j]? := by
            intro j hj
            rw [cell_of_row' hb, Nat.add_assoc, ← flat_get hcs hu j hj]
            apply hlay
            rw [flat_length hcs]
            have : (idx + 1) * p.sz ≤ vs.length * p.sz := Nat.mul_le_mul_right _ (List.getElem?_eq_some_iff.1 hu).1
            rw [Nat.add_mul] at this; omega
          have hload : loadC n (e.cells.drop inner) = some v := by
            split at h
            · rename_i hc
              obtain ⟨rfl, rfl⟩ := hc
              cases e <;> simp at h
              subst h
              simp only [AV.cells] at hec ⊢
              simp [loadC, hec, List.take_of_length_le]
            · first
              | exact h
              | (split at h
                 · exact h
                 · simp at h)
          obtain ⟨cv, h1, h2⟩ := loadC_sound (P := P) (w := w) (ad := ⟨p.blk, p.sh + idx * p.sz + inner, none⟩) hl (hcells.drop inner) (fun j hj => by
            simp at hj
            rw [addr_add, Nat.add_assoc, hcell _ (by omega), List.getElem?_drop]) hload
          exact ⟨cv, by simp [Instr.loadAt, Instr.sureAddr, h1], h2⟩
        · simp at h
      · simp at h
    · simp at h
  · rename_i xs
    simp only [VRel] at hx
    obtain ⟨a, vs, rfl, hv, hlay⟩ := hx
    obtain ⟨cv, h1, h2⟩ := loadC_sound (P := P) (w := w) (ad := a) hl hv (fun j hj => by
      have := hlay j hj
      rw [List.getElem?_eq_getElem hj] at this ⊢
      exact fzc_cell this) h
    exact ⟨cv, by simp [Instr.loadAt, Instr.sureAddr, h1], h2⟩
  · simp at h

theorem hget_some {H : Hp} {id : Nat} {o : AObj} (h : hget H id = some o) : H.l[id]? = some (some o) := by
  unfold hget at h
  cases hh : H.l[id]? with
  | none => rw [hh] at h; simp at h
  | some q => rw [hh] at h; simp at h; rw [h]

/-! ### Storing -/
theorem run_storeCells_free (P : Program) (g o : Nat) (t : TypeId) (fr : Nat × Nat) : ∀ (vs : List Value) (i : Nat) (cur : Array Value) (w : World), w.heap[g]? = some (.cells cur t fr) → Free fr cur.size →
    o + i + vs.length ≤ cur.size → (∀ v ∈ vs, v.oneCell' = true) → (storeCells ⟨g, o, none⟩ vs i).run P w = .ok () (w.setRow g (setFrom cur.toList (o + i) vs).toArray)
  | [], i, cur, w, hg, _, _, _ => by
    simp only [storeCells, setFrom, Array.toArray_toList]
    rw [setRow_self w g cur t fr hg]
    rfl
  | v :: rest, i, cur, w, hg, hf, hl, h1 => by
    have hi : o + i < cur.size := by simp at hl; omega
    have hcell : w.cell? ⟨g, o + i, none⟩ = some cur[o + i] := by simp [World.cell?, hg, hi]
    have hfro : w.frozen? ⟨g, o + i, none⟩ = false := by
      simp only [World.frozen?, hg]
      exact hf.no _ hi
    have hst : (store ((⟨g, o, none⟩ : Addr).add i) v).run P w = .ok () (w.setRow g (cur.setIfInBounds (o + i) v)) := by
      rw [addr_add, run_store P w _ v _ (h1 v (by simp)), hcell]
      simp [hfro, setCell_eq_setRow w g (o + i) cur t fr v hg]
    have ih := run_storeCells_free P g o t fr rest (i + 1) (cur.setIfInBounds (o + i) v) (w.setRow g (cur.setIfInBounds (o + i) v)) (setRow_heap w g cur _ t _ hg) (by simpa using hf) (by simp at hl ⊢; omega) (fun x hx => h1 x (by simp [hx]))
    simp only [storeCells, Sem.run_bind, hst, Result.andThen_ok, ih, setRow_setRow]
    congr 3
    simp [setFrom, Array.toList_setIfInBounds, Nat.add_assoc]

theorem setRow_other (w : World) (g : Nat) (cs : Array Value) {k : Nat} (h : k ≠ g) : (w.setRow g cs).heap[k]? = w.heap[k]? := by
  simp only [World.setRow, Array.getElem?_modify]
  rw [if_neg (by omega)]
theorem setRow_size (w : World) (g : Nat) (cs : Array Value) : (w.setRow g cs).heap.size = w.heap.size := by simp [World.setRow]
theorem astore_sound {P : Program} {PC : Code → AC → Prop} {ι : Io} {H H' : Hp} {w : World} {t : TypeId} {n : Nat} {x y : AV} {cx cy : Value} (hr : RelH PC ι H.l w) (hn : pSize P t = some n)
    (hx : VRel ι (fzOf ι H.l w) x cx) (hy : VRel ι (fzOf ι H.l w) y cy) (h : astore H n x y = some H') :
    ∃ w' ι', (Instr.storeAt t cx cy).run P w = .ok () w' ∧ Stp ι H.l w ι' H'.l w' ∧ RelH PC ι' H'.l w' := by
  unfold astore at h
  split at h
  case isFalse => simp at h
  rename_i hg
  obtain ⟨hg, hlen⟩ := hg
  obtain ⟨hcells, hones⟩ := hy.cells hg
  have hsize : cy.cells.size = n := by have := hcells.length; simp at this; omega
  have hrun : ∀ (ad : Addr) (w' : World), (storeCells ad cy.cells.toList).run P w = .ok () w' → (Instr.storeAt t (.pointer (some ad)) cy).run P w = .ok () w' := by
    intro ad w' hs
    simp [Instr.storeAt, Instr.sureAddr, storeVar, run_sizeOf' hn, hsize, hs]
  split at h
  · rename_i id off
    split at h
    · rename_i cs t' ho
      split at h
      · rename_i hfit
        simp at h; subst h
        simp only [VRel] at hx
        obtain ⟨p, hp, rfl⟩ := hx
        have ho' := hget_some ho
        obtain ⟨c, fr, hb, hf, hsh, hro, hv⟩ := hr.obj _ _ _ ho' hp
        have hcl := hv.length
        simp at hcl
        have hs := run_storeCells_free P p.blk (p.sh + off) t' fr cy.cells.toList 0 c w hb hf (by simp [hsize, hsh]; omega) hones
        refine ⟨_, ι, hrun _ _ hs, ?_⟩
        have := RelH.set (o' := .cells (setFrom cs off y.cells) t') hr ho' hp (w' := w.setRow p.blk (setFrom c.toList (p.sh + off + 0) cy.cells.toList).toArray) rfl rfl rfl (by rw [setRow_size]; exact Nat.le_refl _) (fun k hk hne => setRow_other w _ _ hne) (fun hle => by
          refine ⟨_, fr, setRow_heap w _ _ _ _ _ hb, by simpa [setFrom_length] using hf, hsh, by simp [setFrom_length, hro], ?_⟩
          have := VRels.setFrom (VRels.mono (List.prefix_refl _) hle _ _ hcells) off (VRels.mono (List.prefix_refl _) hle _ _ hv)
          simpa only [hsh, Nat.zero_add, Nat.add_zero] using this)
        exact ⟨this.2, this.1⟩
      · simp at h
    · simp at h
  · rename_i id idx inner
    split at h
    · rename_i sz es t' ho
      split at h
      · rename_i e he
        simp only [VRel] at hx
        obtain ⟨p, hp, rfl⟩ := hx
        have ho' := hget_some ho
        obtain ⟨c, fr, vs, hb, hf, hro, hsz, hv, hcs, hfit, hlay⟩ := hr.obj _ _ _ ho' hp
        subst hsz
        obtain ⟨u, hu, r⟩ := hv.get he
        have hmem : u ∈ vs := List.mem_of_getElem? hu
        have hus := hcs u hmem
        have hfl := flat_length hcs
        have hvl := hv.length
        have hidx : idx < vs.length := (List.getElem?_eq_some_iff.1 hu).1
        have hmul : idx * p.sz + p.sz ≤ vs.length * p.sz := by
          have : (idx + 1) * p.sz ≤ vs.length * p.sz := Nat.mul_le_mul_right _ hidx
          rw [Nat.add_mul] at this; omega
        have hfit' : p.sh + vs.length * p.sz ≤ c.size := by rw [← hvl]; exact hfit
        -- the row's cells behind the store are those of the new elements
        have fin : ∀ (e' : AV) (u' : Value) (at_ : Nat), VRel ι (fzOf ι H.l w) e' u' → u'.cells.size = p.sz → idx * p.sz ≤ at_ → at_ + n ≤ idx * p.sz + p.sz → flat (vs.set idx u') = setFrom (flat vs) at_ cy.cells.toList →
            ∃ w' ι', (storeCells ⟨p.blk, p.sh + at_, none⟩ cy.cells.toList).run P w = .ok () w' ∧ Stp ι H.l w ι' (H.l.set id (some (.arr p.sz (es.set idx e') t'))) w' ∧ RelH PC ι' (H.l.set id (some (.arr p.sz (es.set idx e') t'))) w' := by
          intro e' u' at_ hr' hu' h1 h2 h3
          have hs := run_storeCells_free P p.blk (p.sh + at_) t' fr cy.cells.toList 0 c w hb hf (by simp [hsize]; omega) hones
          refine ⟨_, ι, hs, ?_⟩
          have := RelH.set (o' := .arr p.sz (es.set idx e') t') hr ho' hp (w' := w.setRow p.blk (setFrom c.toList (p.sh + at_ + 0) cy.cells.toList).toArray) rfl rfl rfl (by rw [setRow_size]; exact Nat.le_refl _) (fun k hk hne => setRow_other w _ _ hne) (fun hle => by
            refine ⟨_, fr, vs.set idx u', setRow_heap w _ _ _ _ _ hb, by simpa [setFrom_length] using hf, by simp [setFrom_length, hro], rfl, (VRels.mono (List.prefix_refl _) hle _ _ hv).set idx (VRel.mono (List.prefix_refl _) hle _ _ hr'), ?_, by simpa [setFrom_length] using hfit, ?_⟩
            · intro x hx
              rcases List.mem_or_eq_of_mem_set hx with h | h
              · exact hcs x h
              · rw [h]; exact hu'
            · intro j hj
              rw [h3] at hj ⊢
              rw [setFrom_length] at hj
              simp only [List.getElem?_toArray]
              rw [setFrom_get _ _ _ _ (by simp [hsize]; omega), setFrom_get _ _ _ _ (by simp [hsize]; omega)]
              have hl := hlay j hj
              simp only [Nat.add_zero, Array.getElem?_toList]
              by_cases hc : at_ ≤ j ∧ j < at_ + cy.cells.toList.length
              · rw [if_pos hc, if_pos (by omega)]
                congr 1; omega
              · rw [if_neg hc, if_neg (by omega)]; exact hl)
          exact ⟨this.2, this.1⟩
        split at h
        · rename_i hc
          obtain ⟨rfl, rfl⟩ := hc
          simp at h; subst h
          obtain ⟨w', ι', a1, a2, a3⟩ := fin y cy (idx * p.sz) hy hsize (Nat.le_refl _) (by omega) (flat_set hcs hu hsize)
          exact ⟨w', ι', hrun _ _ (by simpa using a1), a2, a3⟩
        · split at h
          · rename_i cs
            split at h
            · rename_i hin
              obtain ⟨hin, hcsl⟩ := hin
              simp at h; subst h
              simp only [VRel] at r
              obtain ⟨uc, rfl, r⟩ := r
              have hul : uc.size = p.sz := by simpa [Value.cells] using hus
              have hu'sz : (Value.agg (setFrom uc.toList inner cy.cells.toList).toArray).cells.size = p.sz := by simp [Value.cells, setFrom_length, hul]
              obtain ⟨w', ι', a1, a2, a3⟩ := fin (.agg (setFrom cs inner y.cells)) (.agg (setFrom uc.toList inner cy.cells.toList).toArray) (idx * p.sz + inner)
                (by simp only [VRel]; exact ⟨_, rfl, by simpa using VRels.setFrom hcells inner r⟩) hu'sz (by omega) (by omega) (by
                  have hfg := fun j hj => flat_get hcs hu j hj
                  simp only [Value.cells] at hfg
                  rw [flat_set hcs hu hu'sz]
                  generalize cy.cells = q at hsize ⊢
                  apply List.ext_getElem?
                  intro i
                  rw [setFrom_get _ _ _ _ (by simp [Value.cells, setFrom_length, hul]; omega), setFrom_get _ _ _ _ (by simp [hsize]; omega)]
                  simp only [Value.cells, setFrom_length, Array.length_toList, hul, hsize]
                  by_cases hi : idx * p.sz + inner ≤ i ∧ i < idx * p.sz + inner + n
                  · rw [if_pos (by omega), if_pos hi, setFrom_get _ _ _ _ (by simp [hul, hsize]; omega), if_pos (by simp [hsize]; omega)]
                    congr 1; omega
                  · rw [if_neg hi]
                    by_cases hi2 : idx * p.sz ≤ i ∧ i < idx * p.sz + p.sz
                    · rw [if_pos hi2, setFrom_get _ _ _ _ (by simp [hul, hsize]; omega), if_neg (by simp [hsize]; omega)]
                      rw [← hfg (i - idx * p.sz) (by omega)]
                      congr 1; omega
                    · rw [if_neg hi2])
              exact ⟨w', ι', hrun _ _ (by simpa [Nat.add_assoc] using a1), a2, a3⟩
            · simp at h
          · simp at h
      · simp at h
    · simp at h
  · simp at h
end Go.Proofs.Eng
