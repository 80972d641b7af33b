/- The engine, part I: what lays new memory: boxes, structs, rows, make, append, texts as bytes. -/
import Derived.Test.YtkofnmiopjnhiaaEngH
import Derived.Laws.AppendOwn
import Derived.Laws.MakeOwn
set_option linter.unusedVariables false
set_option linter.unusedSimpArgs false
namespace Go.Proofs.Eng
open Go Go.RowKit

section
variable {P : Program} {PC : Code → AC → Prop} {ι : Io} {w : World}

theorem free00 (n : Nat) : Free (0, 0) n := .inl rfl

/-! ### An object that takes over another one's block -/
theorem RelH.takeOver {L : HL} {w' : World} (h : RelH PC ι L w) {i : Nat} {o o' : AObj} {p p' : Pl} (hi : L[i]? = some (some o)) (hp : ι.l[i]? = some p) (hb : p'.blk = p.blk)
    (hos : w'.os = w.os) (htp : w'.tape = w.tape) (hou : w'.output = w.output) (hsz : w.heap.size ≤ w'.heap.size) (hother : ∀ k, k < w.heap.size → k ≠ p.blk → w'.heap[k]? = w.heap[k]?)
    (ho : FzLe (fzOf ι L w) (fzOf (ι.add p') (L.set i none ++ [some o']) w') → ORel PC (ι.add p') (fzOf (ι.add p') (L.set i none ++ [some o']) w') p' w' o') :
    RelH PC (ι.add p') (L.set i none ++ [some o']) w' ∧ Stp ι L w (ι.add p') (L.set i none ++ [some o']) w' := by
  have hlt : i < L.length := (List.getElem?_eq_some_iff.1 hi).1
  have key : ∀ (j : Nat) (oj : AObj) (q : Pl), (L.set i none ++ [some o'])[j]? = some (some oj) → (ι.add p').l[j]? = some q →
      (j ≠ i ∧ j < L.length ∧ L[j]? = some (some oj) ∧ ι.l[j]? = some q) ∨ (j = L.length ∧ oj = o' ∧ q = p') := by
    intro j oj q h1 h2
    by_cases hj : j < L.length
    · rw [List.getElem?_append_left (by simpa using hj)] at h1
      rw [List.getElem?_append_left (by rw [h.len]; exact hj)] at h2
      by_cases e : j = i
      · subst e; simp [hj] at h1
      · rw [List.getElem?_set_ne (by omega)] at h1
        exact .inl ⟨e, hj, h1, h2⟩
    · have hi2 := (List.getElem?_eq_some_iff.1 h1).1
      have : j = L.length := by simp at hi2; omega
      subst this
      have e1 : (L.set i none ++ [some o'])[L.length]? = some (some o') := by
        rw [List.getElem?_append_right (by simp)]; simp
      rw [e1] at h1
      rw [← h.len] at h2
      simp at h1 h2
      exact .inr ⟨rfl, h1.symm, h2.symm⟩
  have hst : Stp ι L w (ι.add p') (L.set i none ++ [some o']) w' := by
    refine ⟨List.prefix_append _ _, hos, htp, hou, hsz, fun k hk hn => ⟨?_, hother k hk ?_⟩, fun _ _ => Iff.rfl⟩
    · rintro ⟨j, oj, q, h1, h2, h3⟩
      rcases key j oj q h1 h2 with ⟨_, _, a, b⟩ | ⟨_, _, rfl⟩
      · exact hn ⟨j, oj, q, a, b, h3⟩
      · exact hn ⟨i, o, p, hi, hp, by omega⟩
    · rintro rfl
      exact hn ⟨i, o, p, hi, hp, rfl⟩
  refine ⟨⟨by simp [h.len], fun j oj q h1 h2 => ?_, fun a b oa ob q r h1 h2 h3 h4 h5 => ?_, (h.xs_of hst rfl).1, (h.xs_of hst rfl).2⟩, hst⟩
  · rcases key j oj q h1 h2 with ⟨e, _, a, b⟩ | ⟨_, rfl, rfl⟩
    · have hr := h.obj j oj q a b
      exact hr.move hst.pre hst.fz (hother _ hr.lt (fun eb => e (h.inj j i oj o q p a hi b hp eb)))
    · exact ho hst.fz
  · rcases key a oa q h1 h3 with ⟨e1, l1, a1, b1⟩ | ⟨rfl, rfl, rfl⟩ <;> rcases key b ob r h2 h4 with ⟨e2, l2, a2, b2⟩ | ⟨rfl, rfl, rfl⟩
    · exact h.inj a b oa ob q r a1 a2 b1 b2 h5
    · exact absurd (h.inj a i oa o q p a1 hi b1 hp (by omega)) e1
    · exact absurd (h.inj b i ob o r p a2 hi b2 hp (by omega)) e2
    · rfl

/-! ### A row laid anew -/
/-- A new block of cells that an object of cells stands for. -/
theorem ok_cells {L : HL} (hr : RelH PC ι L w) (cs : List AV) (c : Array Value) (t : TypeId) (hv : VRels ι (fzOf ι L w) cs c.toList) :
    RelH PC (ι.add ⟨w.heap.size, 0, 0, c.size⟩) (L ++ [some (.cells cs t)]) (w.alloc (.cells c t)) ∧ Stp ι L w (ι.add ⟨w.heap.size, 0, 0, c.size⟩) (L ++ [some (.cells cs t)]) (w.alloc (.cells c t)) := by
  have hpre : ι.Le (ι.add ⟨w.heap.size, 0, 0, c.size⟩) := List.prefix_append _ _
  have hfz : FzLe (fzOf ι L w) (fzOf (ι.add ⟨w.heap.size, 0, 0, c.size⟩) (L ++ [some (.cells cs t)]) (w.alloc (.cells c t))) := by
    refine ⟨fun k c' t' f' e => ?_⟩
    rw [fzOf_some'] at e ⊢
    have hk := (Array.getElem?_eq_some_iff.1 e.2).1
    refine ⟨⟨?_, e.1.2⟩, (alloc_heap_lt w _ hk).trans e.2⟩
    rw [owned_alloc hr.len]
    rintro (h | h)
    · exact e.1.1 h
    · simp at h; omega
  exact hr.alloc _ _ _ rfl ⟨c, (0, 0), alloc_heap_new w _, free00 _, rfl, rfl, VRels.mono hpre hfz _ _ hv⟩

/-- A new block that a row of elements stands for; spare: cells behind them. -/
theorem ok_arr {L : HL} (hr : RelH PC ι L w) (sz : Nat) (es : List AV) (vs : List Value) (c : Array Value) (fr : Nat × Nat) (t : TypeId) (hv : VRels ι (fzOf ι L w) es vs) (hs : ∀ u ∈ vs, u.cells.size = sz)
    (hfr : Free fr c.size) (hfit : es.length * sz ≤ c.size) (hc : ∀ j, j < (flat vs).length → c[j]? = (flat vs)[j]?) :
    RelH PC (ι.add ⟨w.heap.size, 0, sz, c.size⟩) (L ++ [some (.arr sz es t)]) (w.alloc (.cells c t fr)) ∧ Stp ι L w (ι.add ⟨w.heap.size, 0, sz, c.size⟩) (L ++ [some (.arr sz es t)]) (w.alloc (.cells c t fr)) := by
  have hpre : ι.Le (ι.add ⟨w.heap.size, 0, sz, c.size⟩) := List.prefix_append _ _
  have hfz : FzLe (fzOf ι L w) (fzOf (ι.add ⟨w.heap.size, 0, sz, c.size⟩) (L ++ [some (.arr sz es t)]) (w.alloc (.cells c t fr))) := by
    refine ⟨fun k c' t' f' e => ?_⟩
    rw [fzOf_some'] at e ⊢
    have hk := (Array.getElem?_eq_some_iff.1 e.2).1
    refine ⟨⟨?_, e.1.2⟩, (alloc_heap_lt w _ hk).trans e.2⟩
    rw [owned_alloc hr.len]
    rintro (h | h)
    · exact e.1.1 h
    · simp at h; omega
  exact hr.alloc _ _ _ rfl ⟨c, fr, vs, alloc_heap_new w _, hfr, rfl, rfl, VRels.mono hpre hfz _ _ hv, hs, by simpa using hfit, fun j hj => by simpa using hc j hj⟩

theorem vrel_ra_new {L : HL} {p : Pl} (hl : ι.l.length = L.length) {fz : Fz} {n cap : Nat} (hn : n ≤ cap) (hsh : p.sh = 0) (hroom : cap * p.sz ≤ p.room) :
    VRel (ι.add p) fz (.ra p.sz L.length 0 n) (.slice (some ⟨p.blk, 0, none⟩) n cap) := by
  simp only [VRel]
  refine ⟨p, _, cap, by rw [← hl]; simp, rfl, rfl, hn, fun _ => ⟨by simp [hsh], by simpa [hsh] using hroom⟩⟩

theorem run_newRow (e : TypeId) (c : Array Value) : (newRow e c).run P w = .ok ⟨w.heap.size, 0, none⟩ (w.alloc (.cells c e)) := by
  simp only [newRow, Sem.run_bind, run_newObj, Result.andThen_ok, Sem.run_pure]
  rfl

/-- box, alloc: a variable of its own. -/
theorem box_sound {H : Hp} {t : TypeId} {x : AV} {cx : Value} (hr : RelH PC ι H.l w) (hx : VRel ι (fzOf ι H.l w) x cx) (hg : x.good = true) :
    OkS P PC ι H.l w (do pure (.pointer (some (← newVar t cx)))) (.ptr H.l.length 0) (halloc H (.cells x.cells t)).l := by
  obtain ⟨h1, h2⟩ := ok_cells hr x.cells cx.cells t (hx.cells hg).1
  refine ⟨.pointer (some ⟨w.heap.size, 0, none⟩), _, _, by simp only [newVar, Sem.run_bind, run_newRow, Result.andThen_ok, Sem.run_pure], h2, h1, ?_⟩
  simp only [VRel]
  exact ⟨⟨w.heap.size, 0, 0, cx.cells.size⟩, by rw [← hr.len]; simp, rfl⟩

/-! ### Structs and rows that are written out -/
theorem foldl_setFrom (off : Nat) : ∀ (l : List Value) (i : Nat) (cells : Array Value),
    ((l.zipIdx i).foldl (fun cs (c, j) => cs.setIfInBounds (off + j) c) cells).toList = setFrom cells.toList (off + i) l
  | [], i, cells => by simp [setFrom]
  | v :: l, i, cells => by
    simp only [List.zipIdx_cons, List.foldl_cons, setFrom]
    rw [foldl_setFrom off l (i + 1)]
    simp [Array.toList_setIfInBounds, Nat.add_assoc]

theorem foldl_setFrom' (off : Nat) (v : Array Value) (cells : Array Value) :
    (v.zipIdx.foldl (fun cs (c, j) => cs.setIfInBounds (off + j) c) cells).toList = setFrom cells.toList off v.toList := by
  rw [← Array.foldl_toList, Array.toList_zipIdx]
  have := foldl_setFrom off v.toList 0 cells
  simpa using this

theorem pParts_cons {f : Nat → Option (Nat × Nat)} {i : Nat} {x : Operand} {r : List (Nat × Operand)} {q : List (Nat × Nat × Opd)}
    (h : ((i, x) :: r).mapM (fun (p : Nat × Operand) => do let (off, size) ← f p.1; let x ← pOpd p.2; pure (off, size, x)) = some q) :
    ∃ off size y q', f i = some (off, size) ∧ pOpd x = some y ∧ r.mapM (fun (p : Nat × Operand) => do let (off, size) ← f p.1; let x ← pOpd p.2; pure (off, size, x)) = some q' ∧ q = (off, size, y) :: q' := by
  obtain ⟨a, q', h1, h2, rfl⟩ := mapM_cons_some h
  simp only [Option.bind_eq_bind, Option.pure_def] at h1
  obtain ⟨⟨off, size⟩, e1, h1⟩ := Option.bind_eq_some_iff.1 h1
  obtain ⟨y, e2, h1⟩ := Option.bind_eq_some_iff.1 h1
  simp at h1
  exact ⟨off, size, y, q', e1, e2, h2, by rw [← h1]⟩

theorem fill_sound {fz : Fz} {τ : List AV} {a : Act} (ht : VRels ι fz τ a.tmps.toList) (f : Nat → Option (Nat × Nat)) : ∀ (ps : List (Nat × Operand)) (q : List (Nat × Nat × Opd)) (z : List AV) (c : Array Value) (cs : List AV),
    ps.mapM (fun (p : Nat × Operand) => do let (off, size) ← f p.1; let x ← pOpd p.2; pure (off, size, x)) = some q → VRels ι fz z c.toList →
    fillA z (q.map fun (o, s, x) => (o, s, aeval τ x)) = some cs →
    ∃ cc, Instr.fill f c (ps.map fun (i, x) => (i, a.eval x)) = some cc ∧ VRels ι fz cs cc.toList
  | [], q, z, c, cs, h, hz, hf => by
    simp at h; subst h
    simp [fillA] at hf; subst hf
    exact ⟨c, by simp [Instr.fill], hz⟩
  | (i, x) :: r, q, z, c, cs, h, hz, hf => by
    obtain ⟨off, size, y, q', h1, h2, h3, rfl⟩ := pParts_cons h
    simp only [List.map_cons, fillA] at hf
    split at hf
    case isFalse => simp at hf
    rename_i hc
    obtain ⟨hg, hl, hfit⟩ := hc
    have hv := aeval_rel ht h2
    obtain ⟨hcells, _⟩ := hv.cells hg
    have hsz : (a.eval x).cells.size = size := by have := hcells.length; simp at this; omega
    have hzl := hz.length
    simp at hzl
    have hz' := hcells.setFrom off hz
    rw [← foldl_setFrom'] at hz'
    obtain ⟨cc, h4, h5⟩ := fill_sound ht f r q' _ _ cs h3 hz' hf
    refine ⟨cc, ?_, h5⟩
    simp only [List.map_cons, Instr.fill, h1]
    rw [if_neg (by simp [hsz]; omega)]
    exact h4

theorem map_parts {ρ : Operand → Value} (ps : Array (Nat × Operand)) : (ps.map fun (i, x) => (i, ρ x)).toList = ps.toList.map fun (i, x) => (i, ρ x) := by simp

theorem build_sound {H : Hp} {τ : List AV} {a : Act} {t : TypeId} {fs : Array Field} {z : Value} {places : List (Nat × Nat)} {ps : Array (Nat × Operand)} {q : List (Nat × Nat × Opd)} {cs : List AV} (hr : RelH PC ι H.l w)
    (ht : VRels ι (fzOf ι H.l w) τ a.tmps.toList) (hu : P.underlying t = some (.struct fs)) (hz : pZero P t = some z)
    (hpl : fs.toList.mapM (fun (f : Field) => (P.info? f.type).map fun i => (f.offset, i.size)) = some places) (hq : pParts P (fun i => places[i]?) ps = some q)
    (h : fillA (z.cells.toList.map .lit) (q.map fun (o, s, x) => (o, s, aeval τ x)) = some cs) :
    OkS P PC ι H.l w (Instr.build t (ps.map fun (i, x) => (i, a.eval x))) (.agg cs) H.l := by
  obtain ⟨cc, h1, h2⟩ := fill_sound ht _ ps.toList q _ z.cells cs hq (VRels_lits _) h
  refine OkS.of (cv := .agg cc) hr ?_ (by simp only [VRel]; exact ⟨cc, rfl, h2⟩)
  have h1' : Instr.fill (fun (i : Nat) => places.toArray[i]?) z.cells (ps.map fun (i, x) => (i, a.eval x)).toList = some cc := by
    rw [map_parts]
    have : (fun (i : Nat) => places.toArray[i]?) = (fun (i : Nat) => places[i]?) := by funext i; simp
    rw [this]; exact h1
  simp [Instr.build, run_zero' hz, run_underlying' hu, Array.mapM_eq_mapM_toList, run_places w _ _ hpl] at *
  rw [h1']
  rfl
end
end Go.Proofs.Eng
