/- The engine, part J: rows that are written out, make, texts and bytes. -/
import Derived.Test.YtkofnmiopjnhiaaEngI
set_option linter.unusedVariables false
set_option linter.unusedSimpArgs false
namespace Go.Proofs.Eng
open Go Go.RowKit

theorem repl_length {α : Type} (z : List α) : ∀ n, (repl n z).length = n * z.length
  | 0 => by simp [repl]
  | n + 1 => by simp [repl, repl_length z n, Nat.add_mul]; omega

theorem repl_get {α : Type} (z : List α) : ∀ n i, (repl n z)[i]? = if i < n * z.length then z[i % z.length]? else none
  | 0, i => by simp [repl]
  | n + 1, i => by
    simp only [repl]
    by_cases h : i < z.length
    · rw [List.getElem?_append_left h, if_pos (by rw [Nat.add_mul]; omega), Nat.mod_eq_of_lt h]
    · rw [List.getElem?_append_right (by omega), repl_get z n]
      by_cases h2 : i - z.length < n * z.length
      · rw [if_pos h2, if_pos (by rw [Nat.add_mul]; omega)]
        congr 1
        have : i = i - z.length + z.length := by omega
        rw [this, Nat.add_mod_right]; simp
      · rw [if_neg h2, if_neg (by rw [Nat.add_mul]; omega)]

theorem range_zero (n : Nat) (zero : Array Value) : ((Array.range (n * zero.size)).map fun i => zero[i % zero.size]!).toList = repl n zero.toList := by
  apply List.ext_getElem?
  intro i
  rw [repl_get]
  simp only [Array.toList_map, Array.toList_range, List.getElem?_map, List.getElem?_range, Array.length_toList]
  by_cases h : i < n * zero.size
  · have hz : 0 < zero.size := by
      rcases Nat.eq_zero_or_pos zero.size with h0 | h0
      · rw [h0] at h; simp at h
      · exact h0
    have hm := Nat.mod_lt i hz
    simp [h, List.getElem?_range, hm]
  · simp [h]

theorem fillA_length : ∀ (q : List (Nat × Nat × AV)) (z cs : List AV), fillA z q = some cs → cs.length = z.length
  | [], z, cs, h => by simp [fillA] at h; subst h; rfl
  | (o, s, x) :: q, z, cs, h => by
    simp only [fillA] at h
    split at h
    · rw [fillA_length q _ _ h, setFrom_length]
    · simp at h

section
variable {P : Program} {PC : Code → AC → Prop} {ι : Io} {w : World}

/-- Elements out of a row of cells. -/
theorem chunk_sound {fz : Fz} {sz : Nat} {lay : Option Nat} : ∀ (n : Nat) (cs : List AV) (c : List Value), VRels ι fz cs c → cs.length = n * sz → (chunk sz lay n cs).all (fun y => y.good && y.cells.length == sz && (lay.isSome || y.one)) = true →
    ∃ vs, VRels ι fz (chunk sz lay n cs) vs ∧ (∀ u ∈ vs, u.cells.size = sz) ∧ flat vs = c
  | 0, cs, c, h, hl, hg => by
    simp at hl
    have : cs = [] := hl
    subst this
    simp at h; subst h
    exact ⟨[], by simp [chunk], by simp, rfl⟩
  | n + 1, cs, c, h, hl, hg => by
    simp only [chunk, List.all_cons, Bool.and_eq_true] at hg
    obtain ⟨hg1, hg2⟩ := hg
    have hcl := h.length
    have hle : sz ≤ cs.length := by rw [hl, Nat.add_mul]; omega
    obtain ⟨vs, h1, h2, h3⟩ := chunk_sound n (cs.drop sz) (c.drop sz) (h.drop sz) (by simp [hl, Nat.add_mul]) hg2
    cases lay with
    | some k =>
      refine ⟨.agg (c.take sz).toArray :: vs, by simp only [chunk, VRels_cons]; exact ⟨by simp only [VRel]; exact ⟨_, rfl, by simpa using h.take sz⟩, h1⟩, ?_, ?_⟩
      · intro u hu
        rcases List.mem_cons.1 hu with rfl | hu
        · simp [Value.cells]; omega
        · exact h2 u hu
      · simp only [flat, List.flatMap_cons] at h3 ⊢
        rw [h3]; simp [Value.cells]
    | none =>
      simp only [Bool.and_eq_true, beq_iff_eq, Option.isSome_none, Bool.false_or] at hg1
      cases cs with
      | nil =>
        simp at hle; subst hle
        simp [AV.cells, avU] at hg1
      | cons x xs =>
        obtain ⟨u, us, rfl, r1, r2⟩ := VRels_cons_inv h
        simp at hg1
        obtain ⟨⟨hgd, hlen⟩, hone⟩ := hg1
        have hc := r1.cells hgd
        have hus : u.cells.size = sz := by have := hc.1.length; simp at this; omega
        have hu2 := r1.one hone
        have hu1 : u.cells = #[u] := by cases u <;> first | rfl | simp [Value.oneCell'] at hu2
        have hs1 : sz = 1 := by rw [hu1] at hus; simpa using hus.symm
        subst hs1
        refine ⟨u :: vs, by simp only [chunk, VRels_cons]; exact ⟨by simpa using r1, by simpa using h1⟩, ?_, ?_⟩
        · intro v hv
          rcases List.mem_cons.1 hv with rfl | hv
          · exact hus
          · exact h2 v hv
        · simp only [flat, List.flatMap_cons] at h3 ⊢
          rw [h3, hu1]; simp

theorem chunk_length (sz : Nat) (lay : Option Nat) : ∀ (n : Nat) (cs : List AV), (chunk sz lay n cs).length = n
  | 0, cs => rfl
  | n + 1, cs => by simp [chunk, chunk_length sz lay n]
theorem range0 : Array.range 0 = #[] := rfl

theorem bslice_sound {H : Hp} {τ : List AV} {a : Act} {t e : TypeId} {sz len : Nat} {lay : Option Nat} {z : Value} {ps : Array (Nat × Operand)} {q : List (Nat × Nat × Opd)} {cs : List AV} (hr : RelH PC ι H.l w)
    (ht : VRels ι (fzOf ι H.l w) τ a.tmps.toList) (hu : P.underlying t = some (.slice e)) (hsz : pSize P e = some sz) (hz : pZero P e = some z) (hs0 : sz ≠ 0) (hlim : ¬ len * sz > 16777216) (hzs : z.cells.size = sz)
    (hq : pParts P (fun i => some (i * sz, sz)) ps = some q) (h : fillA (repl len (z.cells.toList.map .lit)) (q.map fun (o, s, x) => (o, s, aeval τ x)) = some cs)
    (hok : (chunk sz lay len cs).all (fun y => y.good && y.cells.length == sz && (lay.isSome || y.one)) = true) :
    OkS P PC ι H.l w (Instr.buildSlice t len (ps.map fun (i, x) => (i, a.eval x))) (.ra sz H.l.length 0 len) (halloc H (.arr sz (chunk sz lay len cs) e)).l := by
  have hrep : ∀ n, VRels ι (fzOf ι H.l w) (repl n (z.cells.toList.map .lit)) (repl n z.cells.toList) := by
    intro n
    induction n with
    | zero => simp [repl]
    | succ n ih => simp only [repl]; exact (VRels_lits _).append ih
  have hz0 : VRels ι (fzOf ι H.l w) (repl len (z.cells.toList.map .lit)) ((Array.range (len * sz)).map fun i => z.cells[i % z.cells.size]!).toList := by
    have e1 := range_zero len z.cells
    rw [hzs] at e1
    rw [hzs, e1]
    exact hrep len
  obtain ⟨cc, h1, h2⟩ := fill_sound ht (fun i => some (i * sz, sz)) ps.toList q _ _ cs hq hz0 h
  have hlen : cs.length = len * sz := by
    rw [fillA_length _ _ _ h, repl_length]; simp [hzs]
  obtain ⟨vs, v1, v2, v3⟩ := chunk_sound len cs cc.toList h2 hlen hok
  have hcc : cc.size = len * sz := by have := h2.length; simp at this; omega
  have hcl := chunk_length sz lay len cs
  obtain ⟨r1, r2⟩ := ok_arr hr sz (chunk sz lay len cs) vs cc (0, 0) e v1 v2 (free00 _) (by rw [hcl, hcc]; exact Nat.le_refl _) (fun j hj => by rw [v3]; simp)
  refine ⟨.slice (some ⟨w.heap.size, 0, none⟩) len len, w.alloc (.cells cc e), _, ?_, r2, r1, ?_⟩
  · have hf : Instr.fill (fun i => some (i * sz, sz)) ((Array.range (len * sz)).map fun i => z.cells[i % z.cells.size]!) (ps.map fun (i, x) => (i, a.eval x)).toList = some cc := by
      rw [map_parts]; exact h1
    by_cases hl0 : len * sz = 0
    · have hl : len = 0 := by
        rcases Nat.mul_eq_zero.1 hl0 with h | h
        · exact h
        · exact absurd h hs0
      subst hl
      have hf' : Instr.fill (fun i => some (i * sz, sz)) #[] (ps.map fun (i, x) => (i, a.eval x)).toList = some cc := by
        rw [Nat.zero_mul, range0, Array.map_empty] at hf
        exact hf
      simp only [Instr.buildSlice, Sem.run_bind, run_underlying' hu, Result.andThen_ok, run_sizeOf' hsz, Sem.run_ite]
      rw [if_neg (by simp), if_pos (by omega)]
      simp only [Sem.run_pure, Result.andThen_ok, Nat.zero_mul, range0, Array.map_empty, hf', Sem.run_bind, run_newRow]
    · simp only [Instr.buildSlice, Sem.run_bind, run_underlying' hu, Result.andThen_ok, run_sizeOf' hsz, Sem.run_ite]
      rw [if_neg (show ¬ len * sz > 2 ^ 24 by simpa using hlim), if_neg hl0]
      simp only [Sem.run_bind, run_zero' hz, Sem.run_pure, Result.andThen_ok, hf, run_newRow]
  · exact vrel_ra_new (p := ⟨w.heap.size, 0, sz, cc.size⟩) hr.len (Nat.le_refl _) rfl (by simp [hcc])

theorem mkslice_sound {H : Hp} {t e : TypeId} {i : TypeInfo} {z : Value} {n : Nat} {k k' : IntKind} (hr : RelH PC ι H.l w) (hu : P.underlying t = some (.slice e)) (hi : P.info? e = some i) (hz : i.zero = some z)
    (hs0 : i.size ≠ 0) (hb0 : i.bytes ≠ 0) (hzs : z.cells.size = i.size) (hn : n * i.bytes ≤ roomMax) :
    OkS P PC ι H.l w (Instr.makeSlice t (.int k n) (.int k' n)) (.ra i.size H.l.length 0 n) (halloc H (.arr i.size (List.replicate n (AV.ofV z)) e)).l := by
  have hn1 : n ≤ roomMax := by
    have : n * 1 ≤ n * i.bytes := Nat.mul_le_mul_left _ (by omega)
    omega
  have hw : IntKind.i64.wrap (n : Int) = n := by unfold roomMax at hn1; simp [IntKind.wrap, IntKind.bits, IntKind.signed]; omega
  obtain ⟨r1, r2⟩ := ok_arr hr i.size (List.replicate n (AV.ofV z)) (List.replicate n z) ((Array.range (n * i.size)).map fun j => z.cells[j % z.cells.size]!) (0, 0) e (VRels.replicate (VRel_ofV z) n)
    (fun u hu => by rw [(List.mem_replicate.1 hu).2]; exact hzs) (free00 _) (by simp) (fun j hj => by
      have e1 := range_zero n z.cells
      rw [hzs] at e1
      rw [hzs, ← Array.getElem?_toList, e1]
      congr 1
      clear hn hn1 hw hj e1
      induction n with
      | zero => simp [repl, flat]
      | succ n ih => simp only [repl, List.replicate_succ, flat, List.flatMap_cons] at ih ⊢; rw [ih])
  refine ⟨.slice (some ⟨w.heap.size, 0, none⟩) n n, _, _, ?_, r2, r1, ?_⟩
  · have hb1 : ¬ ((i.bytes : Int) * (n : Int) > 2 ^ 48) := by
      have : i.bytes * n ≤ roomMax := by rw [Nat.mul_comm]; exact hn
      unfold roomMax at this
      have h2 : ((i.bytes * n : Nat) : Int) ≤ 1099511627776 := by omega
      rw [Int.natCast_mul] at h2
      omega
    have hb2 : (decide ((i.bytes : Int) * (n : Int) > 2 ^ 48)) = false := by simpa using hb1
    have hneg : ¬ ((n : Int) < 0) := by omega
    simp only [Instr.makeSlice, Sem.run_bind, run_underlying' hu, Result.andThen_ok, asInt, asIntOf, Sem.run_pure, typeInfo, run_program, hi, hw, Sem.run_ite, hb2, hneg, decide_false, Bool.or_false, Bool.false_or, Bool.false_eq_true, if_false, gt_iff_lt, Int.lt_irrefl, or_self, run_askRoom, sizeOf, Int.toNat_natCast]
    by_cases h0 : n * i.size = 0
    · have hn0 : n = 0 := by
        rcases Nat.mul_eq_zero.1 h0 with h | h
        · exact h
        · exact absurd h hs0
      subst hn0
      simp [run_newRow, range0]
    · simp [h0, zeroValue, typeInfo, hi, hz, run_newRow, hzs]
  · exact vrel_ra_new (p := ⟨w.heap.size, 0, i.size, _⟩) hr.len (Nat.le_refl _) rfl (by simp)

/-! ### A text's bytes -/
theorem freeze_alloc (w : World) (c : Array Value) (e : TypeId) : (w.alloc (.cells c e)).freeze ⟨w.heap.size, c.size, none⟩ 1 = w.alloc (.cells c e (c.size, c.size + 1)) := by
  have h : (w.alloc (.cells c e)).heap.modify w.heap.size (fun
      | .cells c' elem (lo, hi) => .cells c' elem (if lo == hi then (c.size, c.size + 1) else (min lo c.size, max hi (c.size + 1)))
      | o => o) = (w.alloc (.cells c e (c.size, c.size + 1))).heap := by
    apply Array.ext_getElem?
    intro k
    rw [Array.getElem?_modify]
    by_cases hk : w.heap.size = k
    · subst hk
      rw [if_pos rfl, alloc_heap_new, alloc_heap_new]
      simp
    · rw [if_neg hk]
      by_cases hlt : k < w.heap.size
      · rw [alloc_heap_lt _ _ hlt, alloc_heap_lt _ _ hlt]
      · have e1 : (w.alloc (.cells c e)).heap[k]? = none := Array.getElem?_eq_none (by simp; omega)
        have e2 : (w.alloc (.cells c e (c.size, c.size + 1))).heap[k]? = none := Array.getElem?_eq_none (by simp; omega)
        rw [e1, e2]
  unfold World.freeze
  rw [if_neg (by omega)]
  exact congrArg (fun (hp : Array Obj) => ({ w with heap := hp } : World)) h

theorem run_mark_alloc (w : World) (c : Array Value) (e : TypeId) : (markStringish ⟨w.heap.size, 0, none⟩).run P (w.alloc (.cells c e)) = .ok () (w.alloc (.cells c e (c.size, c.size + 1))) := by
  have hs : (w.alloc (.cells c e)).shape? w.heap.size = some (e, c.size) := by unfold World.shape?; rw [alloc_heap_new]
  simp only [markStringish, Sem.run_bind, run_shape, Result.andThen_ok, hs, run_freeze]
  exact congrArg _ (freeze_alloc w c e)

theorem avBytes_rel {fz : Fz} : ∀ b : List UInt8, VRels ι fz (b.map avByte) (b.map fun x => .int .u8 x.toNat)
  | [] => by simp
  | x :: b => by simp only [List.map_cons, VRels_cons]; exact ⟨by simp only [avByte, VRel], avBytes_rel b⟩
theorem flat_bytes : ∀ b : List UInt8, flat (b.map fun x => Value.int .u8 x.toNat) = b.map fun x => .int .u8 x.toNat
  | [] => rfl
  | x :: b => by simp only [List.map_cons, flat, List.flatMap_cons] at *; rw [← flat, flat_bytes b]; rfl

theorem bytes_sound {H : Hp} {e : TypeId} {s : ByteArray} (hr : RelH PC ι H.l w) (hn : (bl s).length ≤ roomMax) :
    OkS P PC ι H.l w (Conv.stringToBytes e s) (.ra 1 H.l.length 0 (bl s).length) (halloc H (.arr 1 ((bl s).map avByte) e)).l := by
  obtain ⟨cap, hcap, hw1⟩ : ∃ cap, s.size ≤ cap ∧ (choose (.appendCap s.size 0 e)).run P w = .ok cap { w with drawn := w.drawn + 1 } := by
    refine ⟨Question.cut (.appendCap s.size 0 e) (w.tape w.drawn (.appendCap s.size 0 e)), by simp [Question.cut], by simp [Question.forced]⟩
  obtain ⟨q1, q2⟩ := hr.draw (w' := { w with drawn := w.drawn + 1 }) rfl rfl rfl rfl
  rw [bl_length] at hn ⊢
  let c : Array Value := (s.data.map fun b => .int .u8 b.toNat) ++ Array.replicate (cap - s.size) (.int .u8 0)
  have hcs : c.size = cap := by simp only [c, Array.size_append, Array.size_map, Array.size_replicate]; show s.size + (cap - s.size) = cap; omega
  have hlen : ((bl s).map avByte).length = s.size := by simp [bl_length]
  obtain ⟨r1, r2⟩ := ok_arr q1 1 ((bl s).map avByte) ((bl s).map fun x => .int .u8 x.toNat) c (c.size, c.size + 1) e (avBytes_rel _) (by intro u hu; simp at hu; obtain ⟨x, _, rfl⟩ := hu; rfl)
    (.inr (Nat.le_refl _)) (by rw [hlen, hcs]; omega) (fun j hj => by
      rw [flat_bytes] at hj ⊢
      simp [bl_length] at hj
      simp only [c]
      rw [Array.getElem?_append_left (by simpa using hj)]
      simp [bl])
  refine ⟨.slice (some ⟨w.heap.size, 0, none⟩) s.size cap, _, _, ?_, q2.trans r2, r1, ?_⟩
  · simp only [Conv.stringToBytes, Sem.run_bind, hw1, Result.andThen_ok, run_newRow]
    have hm := run_mark_alloc (P := P) { w with drawn := w.drawn + 1 } c e
    simp only [c] at hm
    simp only [hm, Result.andThen_ok, Sem.run_pure]
    rfl
  · exact vrel_ra_new (p := ⟨w.heap.size, 0, 1, c.size⟩) q1.len hcap rfl (by simp [hcs])

/-! ### What a slice's cells hold -/
theorem elems_sound {H : Hp} {x : AV} {cx : Value} {ys : List AV} (hr : RelH PC ι H.l w) (hx : VRel ι (fzOf ι H.l w) x cx) (h : asElems H x = some ys) :
    ∃ vs, VRels ι (fzOf ι H.l w) ys vs ∧ ((cx = .slice none 0 0 ∧ ys = []) ∨ ∃ a cap, cx = .slice (some a) ys.length cap ∧ ∀ j, j < (flat vs).length → w.cell? (a.add j) = (flat vs)[j]?) := by
  unfold asElems at h
  split at h
  · simp at h; subst h
    simp only [VRel] at hx
    exact ⟨[], by simp, .inl ⟨hx, rfl⟩⟩
  · rename_i sz xs
    simp at h; subst h
    simp only [VRel] at hx
    obtain ⟨a, cap, vs, rfl, hcap, hvs, hcs, hl⟩ := hx
    refine ⟨vs, hvs, .inr ⟨a, cap, rfl, fun j hj => ?_⟩⟩
    have := hl j hj
    rw [List.getElem?_eq_getElem hj] at this ⊢
    exact fzc_cell this
  · rename_i sz id off n
    split at h
    case h_2 => simp at h
    rename_i sz' es t ho
    split at h
    case isFalse => simp at h
    rename_i hle
    simp at h; subst h
    simp only [VRel] at hx
    obtain ⟨p, a, cap, hp, hpsz, rfl, hcap, hroom⟩ := hx
    obtain ⟨c, fr, vs, hb, hf, hro, hsz, hv, hcs, hfit, hlay⟩ := hr.obj _ _ _ (hget_some ho) hp
    have hvl := hv.length
    refine ⟨(vs.drop off).take n, (hv.drop off).take n, .inr ⟨a, cap, by congr 1; simp; omega, fun j hj => ?_⟩⟩
    have hs2 : ∀ u ∈ vs.drop off, u.cells.size = sz' := fun u hu => hcs u (List.mem_of_mem_drop hu)
    rw [flat_take hs2, flat_drop hcs] at hj ⊢
    simp only [List.length_take, List.length_drop, flat_length hcs] at hj
    by_cases hc0 : cap = 0
    · have : n = 0 := by omega
      subst this; simp at hj
    · obtain ⟨rfl, hr2⟩ := hroom hc0
      rw [addr_add, cell_of_row' hb, List.getElem?_take, if_pos (by omega), List.getElem?_drop, hpsz]
      have e1 : sz = sz' := by omega
      subst e1
      rw [Nat.add_assoc]
      exact hlay _ (by rw [flat_length hcs]; omega)
  · simp at h

/-- Elements of a known size. -/
theorem elems_size {fz : Fz} {sz : Nat} : ∀ {ys : List AV} {vs : List Value}, VRels ι fz ys vs → ys.all (fun y => y.good && y.cells.length == sz) = true → (∀ u ∈ vs, u.cells.size = sz) ∧ ∀ u ∈ flat vs, u.oneCell' = true
  | [], vs, h, _ => by simp at h; subst h; simp [flat]
  | y :: ys, vs, h, hg => by
    obtain ⟨u, us, rfl, r1, r2⟩ := VRels_cons_inv h
    simp only [List.all_cons, Bool.and_eq_true, beq_iff_eq] at hg
    obtain ⟨⟨g1, g2⟩, g3⟩ := hg
    obtain ⟨c1, c2⟩ := r1.cells g1
    obtain ⟨d1, d2⟩ := elems_size r2 g3
    refine ⟨fun v hv => ?_, fun v hv => ?_⟩
    · rcases List.mem_cons.1 hv with rfl | hv
      · have := c1.length; simp at this; omega
      · exact d1 v hv
    · simp only [flat, List.flatMap_cons, List.mem_append] at hv
      rcases hv with hv | hv
      · exact c2 v hv
      · exact d2 v hv

theorem bytesOf_inv {fz : Fz} : ∀ {es : List AV} {b : List UInt8} {vs : List Value}, bytesOf es = some b → VRels ι fz es vs → b.length = es.length ∧ ∃ ns : List Int, vs = ns.map (fun n => Value.int .u8 n) ∧ b = ns.map fun n => UInt8.ofNat n.toNat
  | [], b, vs, h, hv => by simp [bytesOf] at h; subst h; simp at hv; subst hv; exact ⟨rfl, [], rfl, rfl⟩
  | e :: es, b, vs, h, hv => by
    obtain ⟨u, us, rfl, r1, r2⟩ := VRels_cons_inv hv
    unfold bytesOf at h
    split at h
    · simp at *
    · rename_i n r e1
      injection e1 with e1 e2; subst e1; subst e2
      obtain ⟨q, hq, rfl⟩ := Option.map_eq_some_iff.1 h
      obtain ⟨l, ns, rfl, rfl⟩ := bytesOf_inv hq r2
      simp only [VRel] at r1; subst r1
      exact ⟨by simp [l], n :: ns, rfl, rfl⟩
    · simp at h

theorem flat_ints : ∀ ns : List Int, flat (ns.map fun n => Value.int .u8 n) = ns.map fun n => Value.int .u8 n
  | [] => rfl
  | x :: b => by simp only [List.map_cons, flat, List.flatMap_cons] at *; rw [← flat, flat_ints b]; rfl

theorem push_loop {f : Value → ByteArray → Sem (ForInStep ByteArray)} (hf : ∀ (n : Int) (s : ByteArray), f (.int .u8 n) s = pure (ForInStep.yield (s.push (UInt8.ofNat n.toNat)))) : ∀ (ns : List Int) (s : ByteArray) (w : World),
    (forIn (ns.map fun n => Value.int .u8 n) s f).run P w = Result.ok (mkS (bl s ++ ns.map fun n => UInt8.ofNat n.toNat)) w
  | [], s, w => by simp
  | n :: ns, s, w => by
    simp only [List.map_cons, List.forIn_cons, hf, Sem.run_bind, Sem.run_pure, Result.andThen_ok]
    rw [push_loop hf ns]
    have : bl (s.push (UInt8.ofNat n.toNat)) = bl s ++ [UInt8.ofNat n.toNat] := by simp [bl, ByteArray.push]
    rw [this]; simp

theorem str_sound {H : Hp} {x : AV} {cx : Value} {es : List AV} {b : List UInt8} (hr : RelH PC ι H.l w) (hx : VRel ι (fzOf ι H.l w) x cx) (h : asElems H x = some es) (hb : bytesOf es = some b) :
    (Conv.bytesToString cx).run P w = .ok (.string (mkS b)) w := by
  obtain ⟨vs, hv, hc⟩ := elems_sound hr hx h
  obtain ⟨hl, ns, rfl, rfl⟩ := bytesOf_inv hb hv
  rcases hc with ⟨rfl, rfl⟩ | ⟨a, cap, rfl, hc⟩
  · simp at hl
    subst hl
    simp [Conv.bytesToString]; rfl
  · rw [flat_ints] at hc
    have hload := run_loadCells_list (P := P) w a (ns.map fun n => Value.int .u8 n) (fun j v hj => by
      rw [hc j (List.getElem?_eq_some_iff.1 hj).1]; exact hj)
    have hln : (ns.map fun n => Value.int .u8 n).length = es.length := by simpa using hl
    rw [hln] at hload
    simp only [Conv.bytesToString, Sem.run_bind, hload, Result.andThen_ok]
    rw [List.forIn_toArray, push_loop (fun n s => rfl) ns ByteArray.empty w]
    have e0 : bl ByteArray.empty = [] := rfl
    simp [e0]
end
end Go.Proofs.Eng
