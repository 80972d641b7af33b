/- The engine, part K: append. -/
import Derived.Test.YtkofnmiopjnhiaaEngJ
set_option linter.unusedVariables false
set_option linter.unusedSimpArgs false
namespace Go.Proofs.Eng
open Go Go.RowKit

section
variable {P : Program} {PC : Code → AC → Prop} {ι : Io} {w : World}

/-- What is appended: a slice's elements or a text's bytes. -/
structure Src (P : Program) (w : World) (ι : Io) (fz : Fz) (sz : Nat) (cx : Value) (ys : List AV) (vs : List Value) : Prop where
  rel : VRels ι fz ys vs
  size : ∀ u ∈ vs, u.cells.size = sz
  ones : ∀ u ∈ flat vs, u.oneCell' = true
  len : (Builtin.lenOf cx).run P w = .ok ys.length w
  cells : ∀ w', w'.heap = w.heap → (Builtin.firstCells sz ys.length cx).run P w' = .ok (flat vs).toArray w'

theorem src_slice {H : Hp} {x : AV} {cx : Value} {ys : List AV} {sz : Nat} (hr : RelH PC ι H.l w) (hx : VRel ι (fzOf ι H.l w) x cx) (h : asElems H x = some ys)
    (hg : ys.all (fun y => y.good && y.cells.length == sz) = true) : ∃ vs, Src P w ι (fzOf ι H.l w) sz cx ys vs := by
  obtain ⟨vs, hv, hc⟩ := elems_sound hr hx h
  obtain ⟨h1, h2⟩ := elems_size hv hg
  have hl := hv.length
  refine ⟨vs, hv, h1, h2, ?_, ?_⟩
  · rcases hc with ⟨rfl, rfl⟩ | ⟨a, cap, rfl, _⟩ <;> simp [Builtin.lenOf]
  · intro w' hw
    rcases hc with ⟨rfl, rfl⟩ | ⟨a, cap, rfl, hc⟩
    · simp at hl
      have : vs = [] := List.eq_nil_of_length_eq_zero hl.symm
      subst this
      simp [Builtin.firstCells, flat]
    · have hfl : (flat vs).length = ys.length * sz := by rw [flat_length h1, hl]
      have hload := run_loadCells_list (P := P) w' a (flat vs) (fun j v hj => by
        have e : w'.cell? (a.add j) = w.cell? (a.add j) := by simp only [World.cell?, hw]
        rw [e, hc j (List.getElem?_eq_some_iff.1 hj).1]; exact hj)
      rw [hfl] at hload
      simp only [Builtin.firstCells, hload]

theorem src_str {fz : Fz} (s : ByteArray) : Src P w ι fz 1 (.string s) ((bl s).map avByte) ((bl s).map fun x => .int .u8 x.toNat) := by
  have hl : ((bl s).map avByte).length = s.size := by simp [bl_length]
  refine ⟨avBytes_rel _, by intro u hu; simp at hu; obtain ⟨x, _, rfl⟩ := hu; rfl, by rw [flat_bytes]; intro u hu; simp at hu; obtain ⟨x, _, rfl⟩ := hu; rfl, by rw [hl]; simp [Builtin.lenOf], ?_⟩
  intro w' _
  rw [hl, flat_bytes]
  have e : s.extract 0 s.size = s := by
    apply ByteArray.ext
    simp [ByteArray.data_extract]
  simp only [Builtin.firstCells, e, Sem.run_pure]
  congr 1
  apply Array.ext'
  simp [bl]

/-- The append that finds no room. -/
theorem run_append_grow' {t u ty e : TypeId} {i : TypeInfo} {z : Value} {base : Option Addr} {sLen sCap : Nat} {cx : Value} {n : Nat} {old new : List Value} (ht : P.underlying t = some (.slice e))
    (hu : (∃ e', P.underlying u = some (.slice e')) ∨ P.underlying u = some .string) (hi : P.info? e = some i) (hz : i.zero = some z) (hb0 : i.bytes ≠ 0)
    (hlen : (Builtin.lenOf cx).run P w = .ok n w) (hgrow : sCap < sLen + n) (hlim : (sLen + n) * i.bytes ≤ roomMax)
    (hold : ∀ w', w'.heap = w.heap → (Builtin.firstCells i.size sLen (.slice base sLen sCap)).run P w' = .ok old.toArray w') (hnew : ∀ w', w'.heap = w.heap → (Builtin.firstCells i.size n cx).run P w' = .ok new.toArray w') :
    ∃ cap, sLen + n ≤ cap ∧ (Builtin.append_ #[t, u] ty #[.slice base sLen sCap, cx]).run P w =
      .ok (.slice (some ⟨w.heap.size, 0, none⟩) (sLen + n) cap) (w.drew.alloc (.cells (old.toArray ++ new.toArray ++ Builtin.zeroCells z.cells (cap - (sLen + n))) e)) := by
  refine ⟨Question.cut (.appendCap (sLen + n) sCap e) (w.tape w.drawn (.appendCap (sLen + n) sCap e)), by simp [Question.cut], ?_⟩
  have hsmall : sLen + n ≤ roomMax := by
    have : (sLen + n) * 1 ≤ (sLen + n) * i.bytes := Nat.mul_le_mul_left _ (by omega)
    omega
  have hnc : ¬ (Builtin.nextslicecap (sLen + n) sCap * i.bytes > 2 ^ 48) := by
    have h1 := nextslicecap_le hgrow
    have h2 : Builtin.nextslicecap (sLen + n) sCap * i.bytes ≤ 2 * (sLen + n) * i.bytes := Nat.mul_le_mul_right _ h1
    have h3 : 2 * (sLen + n) * i.bytes = 2 * ((sLen + n) * i.bytes) := by rw [Nat.mul_assoc]
    unfold roomMax at hlim
    omega
  have hmax : ¬ (((sLen + n : Nat) : Int) > IntKind.i64.max) := by
    unfold roomMax at hsmall
    simp [IntKind.max, IntKind.signed, IntKind.bits]; omega
  have h1 := hold w.drew rfl
  have h2 := hnew w.drew rfl
  have hr1 : ¬ (sLen + n ≤ sCap) := by omega
  rcases hu with ⟨e', hu⟩ | hu
  · simp [Builtin.append_, run_underlying' ht, run_underlying' hu, sizeOf, typeInfo, hi, hlen, hr1, hb0, hnc, zeroValue, hz, run_newRow, Question.forced, h1, h2]
    simp [← Array.append_assoc]
  · simp [Builtin.append_, run_underlying' ht, run_underlying' hu, sizeOf, typeInfo, hi, hlen, hr1, hb0, hnc, zeroValue, hz, run_newRow, Question.forced, h1, h2]
    simp [← Array.append_assoc]

/-- .. and the one that finds room. -/
theorem run_append_room' {t u ty e : TypeId} {i : TypeInfo} {base : Option Addr} {sLen sCap : Nat} {cx : Value} {n : Nat} {new : List Value} {w' : World} (ht : P.underlying t = some (.slice e))
    (hu : (∃ e', P.underlying u = some (.slice e')) ∨ P.underlying u = some .string) (hi : P.info? e = some i)
    (hlen : (Builtin.lenOf cx).run P w = .ok n w) (hroom : sLen + n ≤ sCap) (hnew : (Builtin.firstCells i.size n cx).run P w = .ok new.toArray w)
    (hst : ∀ a, base = some a → (storeCells (a.add (sLen * i.size)) new).run P w = .ok () w') (hst0 : base = none → w' = w) :
    (Builtin.append_ #[t, u] ty #[.slice base sLen sCap, cx]).run P w = .ok (.slice base (sLen + n) sCap) w' := by
  cases base with
  | none =>
    have := hst0 rfl
    subst this
    rcases hu with ⟨e', hu⟩ | hu <;>
      simp [Builtin.append_, run_underlying' ht, run_underlying' hu, sizeOf, typeInfo, hi, hlen, hroom, hnew]
  | some a =>
    have h := hst a rfl
    rcases hu with ⟨e', hu⟩ | hu <;>
      simp [Builtin.append_, run_underlying' ht, run_underlying' hu, sizeOf, typeInfo, hi, hlen, hroom, hnew, h]

theorem zeroCells_size (z : Array Value) (n : Nat) : (Builtin.zeroCells z n).size = n * z.size := by simp [Builtin.zeroCells]

theorem aappend_sound {H : Hp} {t u ty e : TypeId} {i : TypeInfo} {z : Value} {s v : AV} {cs cx : Value} {H' : Option Hp} (hr : RelH PC ι H.l w) (ht : P.underlying t = some (.slice e))
    (hu' : (∃ e', P.underlying u = some (.slice e')) ∨ P.underlying u = some .string) (hi : P.info? e = some i) (hz : i.zero = some z) (hs0 : i.size ≠ 0) (hb0 : i.bytes ≠ 0) (hzs : z.cells.size = i.size)
    (hs : VRel ι (fzOf ι H.l w) s cs) {ys : List AV} (hsrc : ys.all (fun y => y.good && y.cells.length == i.size) = true → ∃ vs, Src P w ι (fzOf ι H.l w) i.size cx ys vs) (h : appendOn H e i.size i.bytes s ys = some (v, H')) :
    OkS P PC ι H.l w (Builtin.append_ #[t, u] ty #[cs, cx]) v (H'.getD H).l := by
  unfold appendOn at h
  split at h
  · -- onto nil
    simp only [VRel] at hs; subst hs
    split at h
    case isFalse => simp at h
    rename_i hc
    obtain ⟨hlim, hg⟩ := hc
    obtain ⟨vs, S⟩ := hsrc hg
    split at h
    · rename_i he
      simp at h
      obtain ⟨rfl, rfl⟩ := h
      have hy0 : ys = [] := by simpa using he
      subst hy0
      have := S.len
      refine OkS.of (cv := .slice none 0 0) hr ?_ (by simp only [VRel])
      exact run_append_room' (new := flat vs) ht hu' hi this (by simp) (S.cells w rfl) (by simp) (fun _ => rfl)
    · rename_i he
      simp at h
      obtain ⟨rfl, rfl⟩ := h
      have hy0 : 0 < ys.length := by
        cases ys with
        | nil => simp at he
        | cons y r => simp
      obtain ⟨cap, hcap, hrun⟩ := run_append_grow' (ty := ty) (base := none) (sLen := 0) (sCap := 0) (old := []) ht hu' hi hz hb0 S.len (by omega) (by simpa using hlim) (fun w' _ => by simp [Builtin.firstCells]) S.cells
      obtain ⟨q1, q2⟩ := hr.draw (w' := w.drew) rfl rfl rfl rfl
      have hfl : (flat vs).length = ys.length * i.size := by rw [flat_length S.size, S.rel.length]
      obtain ⟨r1, r2⟩ := ok_arr q1 i.size ys vs (([] : List Value).toArray ++ (flat vs).toArray ++ Builtin.zeroCells z.cells (cap - (0 + ys.length))) (0, 0) e (q2.vs S.rel) S.size (free00 _)
        (by simp [hfl]) (fun j hj => by
          rw [Array.getElem?_append_left (by simpa using hj)]
          simp)
      refine ⟨_, _, _, hrun, q2.trans r2, r1, ?_⟩
      have := vrel_ra_new (p := ⟨w.drew.heap.size, 0, i.size, (([] : List Value).toArray ++ (flat vs).toArray ++ Builtin.zeroCells z.cells (cap - (0 + ys.length))).size⟩) (fz := fzOf (ι.add ⟨w.drew.heap.size, 0, i.size, (([] : List Value).toArray ++ (flat vs).toArray ++ Builtin.zeroCells z.cells (cap - (0 + ys.length))).size⟩) (halloc H (.arr i.size ys e)).l (w.drew.alloc (.cells (([] : List Value).toArray ++ (flat vs).toArray ++ Builtin.zeroCells z.cells (cap - (0 + ys.length))) e))) (n := ys.length) (cap := cap) q1.len (by omega) rfl (by
        simp only [Array.size_append, List.size_toArray, zeroCells_size, hzs, hfl, List.length_nil, Nat.zero_add]
        rw [← Nat.add_mul]
        exact Nat.mul_le_mul_right _ (by omega))
      simpa using this
  · -- onto a row that lives
    rename_i sz0 id off n
    split at h
    case h_2 => simp at h
    rename_i sz' es e' ho
    split at h
    case isFalse => simp at h
    rename_i hc
    obtain ⟨rfl, rfl, hle, hlim, hg⟩ := hc
    simp at h
    obtain ⟨rfl, rfl⟩ := h
    obtain ⟨vs, S⟩ := hsrc hg
    simp only [VRel] at hs
    obtain ⟨p, a, cap, hp, hpsz, rfl, hcap, hroom⟩ := hs
    have ho' := hget_some ho
    obtain ⟨c, fr, us, hb, hf, hro, hsz, hv, hcs, hfit, hlay⟩ := hr.obj _ _ _ ho' hp
    have hul := hv.length
    have hysl := S.rel.length
    have hsel : ((es.drop off).take n).length = n := by simp; omega
    have hrel2 : VRels ι (fzOf ι H.l w) ((es.drop off).take n ++ ys) ((us.drop off).take n ++ vs) := ((hv.drop off).take n).append S.rel
    have hus2 : ∀ q ∈ us.drop off, q.cells.size = i.size := fun q hq => hcs q (List.mem_of_mem_drop hq)
    have hus3 : ∀ q ∈ (us.drop off).take n ++ vs, q.cells.size = i.size := by
      intro q hq
      rcases List.mem_append.1 hq with h | h
      · exact hus2 q (List.mem_of_mem_take h)
      · exact S.size q h
    have hflo : flat ((us.drop off).take n) = ((flat us).drop (off * i.size)).take (n * i.size) := by rw [flat_take hus2, flat_drop hcs]
    have hflol : (flat ((us.drop off).take n)).length = n * i.size := by
      rw [flat_length (fun q hq => hus2 q (List.mem_of_mem_take hq))]
      congr 1; simp; omega
    have hfl : (flat vs).length = ys.length * i.size := by rw [flat_length S.size, ← hysl]
    have hmul : off * i.size + n * i.size ≤ es.length * i.size := by rw [← Nat.add_mul]; exact Nat.mul_le_mul_right _ hle
    have hmul' : off * i.size + n * i.size ≤ us.length * i.size := by rw [← hul]; exact hmul
    by_cases hrm : n + ys.length ≤ cap
    · -- room
      by_cases hc0 : cap = 0
      · -- nothing stands there, nothing comes
        have hn0 : n = 0 := by omega
        have hy0 : ys.length = 0 := by omega
        have hys0 : ys = [] := List.eq_nil_of_length_eq_zero hy0
        subst hn0; subst hys0
        have hvs0 : vs = [] := List.eq_nil_of_length_eq_zero (by simpa using hysl.symm)
        subst hvs0
        obtain ⟨r1, r2⟩ := hr.takeOver (o' := .arr i.size [] e') (p' := ⟨p.blk, p.sh + off * i.size, i.size, p.room⟩) ho' hp rfl rfl rfl rfl (Nat.le_refl _) (fun _ _ _ => rfl) (fun hle2 =>
          ⟨c, fr, [], hb, hf, hro, rfl, by simp, by simp, by simp; omega, by simp [flat]⟩)
        refine ⟨_, w, _, run_append_room' (new := flat ([] : List Value)) (w' := w) ht hu' hi S.len hrm (S.cells w rfl) (fun a _ => by simp [flat, storeCells]) (fun _ => rfl), by simpa [halloc, hset] using r2, by simpa [halloc, hset] using r1, ?_⟩
        simp only [VRel]
        refine ⟨⟨p.blk, p.sh + off * i.size, i.size, p.room⟩, a, cap, by rw [← hr.len]; simp, rfl, by simp, by simp, fun hh => absurd hc0 hh⟩
      · obtain ⟨rfl, hroom⟩ := hroom hc0
        have hfit2 : p.sh + off * i.size + n * i.size + (flat vs).length ≤ c.size := by
          rw [hfl, ← hro]
          have : (off + cap) * p.sz = off * i.size + cap * i.size := by rw [hsz, Nat.add_mul]
          have h3 : (n + ys.length) * i.size ≤ cap * i.size := Nat.mul_le_mul_right _ hrm
          rw [Nat.add_mul] at h3
          omega
        have hst := run_storeCells_free P p.blk (p.sh + off * p.sz + n * i.size) e' fr (flat vs) 0 c w hb hf (by rw [hsz]; simpa using hfit2) S.ones
        obtain ⟨r1, r2⟩ := hr.takeOver (o' := .arr i.size ((es.drop off).take n ++ ys) e') (p' := ⟨p.blk, p.sh + off * i.size, i.size, p.room⟩) (w' := w.setRow p.blk (setFrom c.toList (p.sh + off * p.sz + n * i.size + 0) (flat vs)).toArray) ho' hp rfl rfl rfl rfl (by rw [setRow_size]; exact Nat.le_refl _) (fun k _ hne => setRow_other w _ _ hne) (fun hle2 =>
          ⟨_, fr, (us.drop off).take n ++ vs, setRow_heap w _ _ _ _ _ hb, by simpa [setFrom_length] using hf, by simpa [setFrom_length] using hro, rfl, VRels.mono (List.prefix_append _ _) hle2 _ _ hrel2, hus3, by
            simp only [List.length_append, hsel, List.size_toArray, setFrom_length, Array.length_toList]
            rw [Nat.add_mul]; omega, fun j hj => by
            rw [flat_append] at hj ⊢
            rw [List.length_append, hflol] at hj
            simp only [List.getElem?_toArray]
            rw [setFrom_get _ _ _ _ (by rw [hsz]; simpa using hfit2)]
            simp only [hsz, Nat.add_zero, Array.getElem?_toList]
            by_cases hj1 : j < n * i.size
            · rw [if_neg (by omega), List.getElem?_append_left (by omega), hflo, List.getElem?_take, if_pos hj1, List.getElem?_drop, Nat.add_assoc]
              exact hlay _ (by rw [flat_length hcs]; omega)
            · rw [if_pos (by omega), List.getElem?_append_right (by omega), hflol]
              congr 1; omega⟩)
        refine ⟨_, _, _, run_append_room' (new := flat vs) ht hu' hi S.len hrm (S.cells w rfl) (fun a ha => by injection ha with ha; subst ha; rw [addr_add]; exact hst) (fun h => by cases h), by simpa [halloc, hset] using r2, by simpa [halloc, hset] using r1, ?_⟩
        simp only [VRel]
        refine ⟨⟨p.blk, p.sh + off * i.size, i.size, p.room⟩, _, cap, by rw [← hr.len]; simp, rfl, rfl, hrm, fun _ => ⟨by simp [hsz], ?_⟩⟩
        simp only [Nat.zero_add]
        have : (off + cap) * p.sz = off * i.size + cap * i.size := by rw [hsz, Nat.add_mul]
        omega
    · -- no room: a new row
      have hold : ∀ w', w'.heap = w.heap → (Builtin.firstCells i.size n (.slice (some a) n cap)).run P w' = .ok (flat ((us.drop off).take n)).toArray w' := by
        intro w' hw
        have hload := run_loadCells_list (P := P) w' a (flat ((us.drop off).take n)) (fun j q hj => by
          have hlt := (List.getElem?_eq_some_iff.1 hj).1
          rw [hflol] at hlt
          have hc0 : cap ≠ 0 := by
            intro h0
            have : n = 0 := by omega
            subst this; simp at hlt
          obtain ⟨rfl, _⟩ := hroom hc0
          have e1 : w'.cell? ((⟨p.blk, p.sh + off * p.sz, none⟩ : Addr).add j) = w.cell? ((⟨p.blk, p.sh + off * p.sz, none⟩ : Addr).add j) := by simp only [World.cell?, hw]
          rw [e1, addr_add, cell_of_row' hb, hsz, Nat.add_assoc, hlay _ (by rw [flat_length hcs]; omega)]
          rw [hflo, List.getElem?_take, if_pos hlt, List.getElem?_drop] at hj
          exact hj)
        rw [hflol] at hload
        simp only [Builtin.firstCells, hload]
      obtain ⟨cap', hcap', hrun⟩ := run_append_grow' (ty := ty) (base := some a) (sLen := n) (sCap := cap) (old := flat ((us.drop off).take n)) ht hu' hi hz hb0 S.len (by omega) hlim hold S.cells
      obtain ⟨k1, k2⟩ := hr.kill id
      obtain ⟨q1, q2⟩ := k1.draw (w' := w.drew) rfl rfl rfl rfl
      have hcd : ((flat ((us.drop off).take n)).toArray ++ (flat vs).toArray ++ Builtin.zeroCells z.cells (cap' - (n + ys.length))).size = cap' * i.size := by
        simp only [Array.size_append, List.size_toArray, zeroCells_size, hzs, hfl, hflol]
        rw [← Nat.add_mul, ← Nat.add_mul]
        congr 1; omega
      obtain ⟨r1, r2⟩ := ok_arr q1 i.size ((es.drop off).take n ++ ys) ((us.drop off).take n ++ vs) ((flat ((us.drop off).take n)).toArray ++ (flat vs).toArray ++ Builtin.zeroCells z.cells (cap' - (n + ys.length))) (0, 0) e' (q2.vs (k2.vs hrel2)) hus3 (free00 _)
        (by rw [hcd]; simp only [List.length_append, hsel]; exact Nat.mul_le_mul_right _ hcap') (fun j hj => by
          rw [flat_append] at hj ⊢
          rw [Array.getElem?_append_left (by simpa using hj)]
          simp)
      refine ⟨_, _, _, hrun, k2.trans (q2.trans (by simpa [halloc, hset] using r2)), by simpa [halloc, hset] using r1, ?_⟩
      simp only [VRel]
      refine ⟨⟨w.drew.heap.size, 0, i.size, _⟩, _, cap', by have hq := q1.len; simp only [List.length_set] at hq; rw [← hq]; simp; rfl, rfl, rfl, hcap', fun _ => ⟨by simp, ?_⟩⟩
      simp only [Nat.zero_add]
      have hcd2 := hcd
      simp only [Array.size_append, List.size_toArray] at hcd2
      omega
  · simp at h
end
end Go.Proofs.Eng
