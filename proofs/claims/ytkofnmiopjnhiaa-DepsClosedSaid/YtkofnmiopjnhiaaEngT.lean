/- The engine, part T: what a call gives back; the heap as it was, where nothing old was written. -/
import Derived.Test.YtkofnmiopjnhiaaEngS
set_option linter.unusedVariables false
set_option linter.unusedSimpArgs false
namespace Go.Proofs.Eng
open Go Go.RowKit

/-- Where nothing old was written, the old heap stands for the new memory. -/
theorem RelH.restore {PC : Code → AC → Prop} {ι ι' : Io} {L L' : HL} {w w' : World} (h : RelH PC ι L w) (h' : RelH PC ι' L' w') (s : Stp ι L w ι' L' w') (hp : ∀ i, i < L.length → L'[i]? = L[i]?) :
    RelH PC ι L w' ∧ Stp ι L w ι L w' ∧ FzLe (fzOf ι' L' w') (fzOf ι L w') := by
  have hfz : FzLe (fzOf ι' L' w') (fzOf ι L w') := by
    refine ⟨fun k c t f e => ?_⟩
    rw [fzOf_some'] at e ⊢
    refine ⟨⟨fun ho => e.1.1 ?_, fun hx => e.1.2 ((s.xs k (h.xlt k hx)).2 hx)⟩, e.2⟩
    obtain ⟨i, o, p, h1, h2, h3⟩ := ho
    exact ⟨i, o, p, (hp i (List.getElem?_eq_some_iff.1 h1).1).trans h1, prefix_get s.pre h2, h3⟩
  have hst : Stp ι L w ι L w' := ⟨List.prefix_refl _, s.os, s.tape, s.output, s.size, fun k hk hn => ⟨hn, (s.frame k hk hn).2⟩, fun _ _ => Iff.rfl⟩
  refine ⟨⟨h.len, fun i o p h1 h2 => ?_, h.inj, (h.xs_of hst rfl).1, (h.xs_of hst rfl).2⟩, hst, hfz⟩
  have hlt := (List.getElem?_eq_some_iff.1 h1).1
  exact (h.obj i o p h1 h2).shrink s.pre hfz (h'.obj i o p ((hp i hlt).trans h1) (prefix_get s.pre h2))

/-- What a call gives back: its value, and the heap as it was, where that may be. -/
def settle (H : Hp) (v : AV) (H' : Hp) : AV × Option Hp :=
  if keeps H H' && v.under H.l.length then (v, none) else (v, some { l := H'.l, d := dminO H.d H'.d })

theorem settle_le {H H' : Hp} {v u : AV} {h : Option Hp} (hl : HLe { H with d := none } H') (e : settle H v H' = (u, h)) : Le? H h := by
  unfold settle at e
  split at e
  · simp only [Prod.mk.injEq] at e; obtain ⟨_, rfl⟩ := e; exact Le?.none H
  · simp only [Prod.mk.injEq] at e; obtain ⟨_, rfl⟩ := e
    refine ⟨hl.len, fun m hm => ?_, fun i hi hd => ?_⟩
    · simp only [Option.getD_some, dminO]
      cases hd : H'.d with
      | none => exact ⟨m, hm, Nat.le_refl _⟩
      | some n =>
        obtain ⟨k, h1, h2, h3⟩ := dmin_some H.d n
        exact ⟨k, h1, h3 m hm⟩
    · refine hl.pre i hi fun m hm => ?_
      simp only [Option.getD_some, dminO, hm] at hd
      obtain ⟨k, h1, h2, h3⟩ := dmin_some H.d m
      exact Nat.lt_of_lt_of_le (hd k h1) h2

theorem settle_sound {P : Program} {ι ι' : Io} {H H' : Hp} {w w' : World} {v u : AV} {cv : Value} {h : Option Hp} (hr : RelH (PCof P) ι H.l w) (hl : HLe { H with d := none } H') (s : Stp ι H.l w ι' H'.l w') (hr' : RelH (PCof P) ι' H'.l w') (hv : VRel ι' (fzOf ι' H'.l w') v cv)
    (e : settle H v H' = (u, h)) : Left P ι H.l w u (h.getD H).l cv w' := by
  unfold settle at e
  split at e
  · rename_i hc
    simp only [Bool.and_eq_true] at hc
    simp only [Prod.mk.injEq] at e; obtain ⟨rfl, rfl⟩ := e
    have hp : ∀ i, i < H.l.length → H'.l[i]? = H.l[i]? := by
      intro i hi
      refine hl.pre i hi fun m hm => ?_
      have := hc.1
      unfold keeps at this
      rw [hm] at this
      simp only [decide_eq_true_eq] at this
      omega
    obtain ⟨r1, r2, r3⟩ := hr.restore hr' s hp
    exact ⟨ι, r2, r1, VRel.shrink s.pre r3 _ _ (by rw [hr.len]; exact hc.2) hv⟩
  · simp only [Prod.mk.injEq] at e; obtain ⟨rfl, rfl⟩ := e
    exact ⟨ι', s, hr', hv⟩

/-! ### New rows and objects, that nobody writes any more -/
/-- A value without the objects from n0 on: these are read for good. -/
def frz (L : HL) (n0 : Nat) : Nat → AV → Option AV
  | 0, _ => none
  | k + 1, x =>
    match x with
    | .lit v => some (.lit v)
    | .agg xs => (xs.mapM (frz L n0 k)).map .agg
    | .tup xs => (xs.mapM (frz L n0 k)).map .tup
    | .sl sz xs => (xs.mapM (frz L n0 k)).map (.sl sz)
    | .vp xs => (xs.mapM (frz L n0 k)).map .vp
    | .fn f fs cs => (fs.mapM (frz L n0 k)).bind fun fs' => (cs.mapM (frz L n0 k)).map fun cs' => .fn f fs' cs'
    | .ra sz id off n =>
      if id < n0 then some (.ra sz id off n) else
      match (L[id]?).getD none with
      | some (.arr sz' es _) => if sz' = sz ∧ off + n ≤ es.length then (((es.drop off).take n).mapM (frz L n0 k)).map (.sl sz) else none
      | _ => none
    | .ptr id off =>
      if id < n0 then some (.ptr id off) else
      match (L[id]?).getD none with
      | some (.cells cs _) => if off ≤ cs.length then ((cs.drop off).mapM (frz L n0 k)).map .vp else none
      | _ => none
    | .map id => if id < n0 then some (.map id) else none
    | _ => none

theorem mapM_rel {ι ι' : Io} {fz fz' : Fz} {g : AV → Option AV} (hg : ∀ x y v, g x = some y → VRel ι' fz' x v → VRel ι fz y v) : ∀ {xs ys : List AV} {vs : List Value}, xs.mapM g = some ys → VRels ι' fz' xs vs → VRels ι fz ys vs
  | [], ys, vs, e, h => by simp at e; subst e; simpa using h
  | x :: xs, ys, vs, e, h => by
    obtain ⟨u, us, rfl, h1, h2⟩ := VRels_cons_inv h
    rw [List.mapM_cons] at e
    simp only [Option.bind_eq_bind, Option.pure_def] at e
    obtain ⟨y, e1, e⟩ := Option.bind_eq_some_iff.1 e
    obtain ⟨ys', e2, e⟩ := Option.bind_eq_some_iff.1 e
    simp only [Option.some.injEq] at e
    subst e
    simp only [VRels_cons]
    exact ⟨hg _ _ _ e1 h1, mapM_rel hg e2 h2⟩

theorem mapM_len {g : AV → Option AV} : ∀ {xs ys : List AV}, xs.mapM g = some ys → ys.length = xs.length
  | [], ys, e => by simp at e; subst e; rfl
  | x :: xs, ys, e => by
    rw [List.mapM_cons] at e
    simp only [Option.bind_eq_bind, Option.pure_def] at e
    obtain ⟨y, e1, e⟩ := Option.bind_eq_some_iff.1 e
    obtain ⟨ys', e2, e⟩ := Option.bind_eq_some_iff.1 e
    simp only [Option.some.injEq] at e
    subst e
    simp [mapM_len e2]

theorem addr_add0 (b o j : Nat) : (Addr.add ⟨b, o, none⟩ j) = ⟨b, o + j, none⟩ := by
  unfold Addr.add
  split
  · rename_i h; have : j = 0 := by simpa using h
    subst this; rfl
  · rfl

theorem frz_rel {PC : Code → AC → Prop} {ι ι' : Io} {L L' : HL} {w' : World} (hlen : ι.l.length = L.length) (hpre : ι.Le ι') (hr' : RelH PC ι' L' w') (hp : ∀ i, i < L.length → L'[i]? = L[i]?) (hfz : FzLe (fzOf ι' L' w') (fzOf ι L w')) (hx : ∀ k ∈ ι.x, k ∈ ι'.x) :
    ∀ (k : Nat) (x y : AV) (v : Value), frz L' L.length k x = some y → VRel ι' (fzOf ι' L' w') x v → VRel ι (fzOf ι L w') y v := by
  have hfree : ∀ (id : Nat) (o : AObj) (p : Pl), L.length ≤ id → L'[id]? = some (some o) → ι'.l[id]? = some p → ∀ ob, w'.heap[p.blk]? = some ob → fzOf ι L w' p.blk = some ob := by
    intro id o p hid h1 h2 ob hob
    rw [fzOf_some']
    refine ⟨⟨?_, fun hxk => hr'.xno _ (hx _ hxk) ⟨id, o, p, h1, h2, rfl⟩⟩, hob⟩
    rintro ⟨i, oi, q, g1, g2, g3⟩
    have hi := (List.getElem?_eq_some_iff.1 g1).1
    have := hr'.inj i id oi o q p ((hp i hi).trans g1) h1 (prefix_get hpre g2) h2 g3
    omega
  intro k
  induction k with
  | zero => intro x y v e; simp [frz] at e
  | succ k ih =>
    intro x y v e h
    cases x with
    | lit u => simp only [frz, Option.some.injEq] at e; subst e; simpa only [VRel] using h
    | agg xs =>
      simp only [frz] at e
      obtain ⟨ys, e1, rfl⟩ := Option.map_eq_some_iff.1 e
      simp only [VRel] at h ⊢
      obtain ⟨cs, h1, h2⟩ := h
      exact ⟨cs, h1, mapM_rel ih e1 h2⟩
    | tup xs =>
      simp only [frz] at e
      obtain ⟨ys, e1, rfl⟩ := Option.map_eq_some_iff.1 e
      simp only [VRel] at h ⊢
      obtain ⟨cs, h1, h2⟩ := h
      exact ⟨cs, h1, mapM_rel ih e1 h2⟩
    | sl sz xs =>
      simp only [frz] at e
      obtain ⟨ys, e1, rfl⟩ := Option.map_eq_some_iff.1 e
      simp only [VRel] at h ⊢
      obtain ⟨a, cap, vs, h1, h2, h3, h4, h5⟩ := h
      rw [mapM_len e1]
      exact ⟨a, cap, vs, h1, h2, mapM_rel ih e1 h3, h4, h5.mono hfz⟩
    | vp xs =>
      simp only [frz] at e
      obtain ⟨ys, e1, rfl⟩ := Option.map_eq_some_iff.1 e
      simp only [VRel] at h ⊢
      obtain ⟨a, vs, h1, h2, h3⟩ := h
      exact ⟨a, vs, h1, mapM_rel ih e1 h2, h3.mono hfz⟩
    | fn f fs cs =>
      simp only [frz] at e
      obtain ⟨fs', e1, e⟩ := Option.bind_eq_some_iff.1 e
      obtain ⟨cs', e2, rfl⟩ := Option.map_eq_some_iff.1 e
      simp only [VRel] at h ⊢
      obtain ⟨as, bs, h1, h2, h3⟩ := h
      exact ⟨as, bs, h1, mapM_rel ih e1 h2, mapM_rel ih e2 h3⟩
    | ra sz id off n =>
      simp only [frz] at e
      split at e
      · rename_i hid
        simp only [Option.some.injEq] at e; subst e
        simp only [VRel] at h ⊢
        obtain ⟨p, a, cap, h1, h2⟩ := h
        exact ⟨p, a, cap, prefix_back hpre (by omega) h1, h2⟩
      · rename_i hid
        split at e
        · rename_i sz' es t ho
          split at e
          · rename_i hc
            obtain ⟨rfl, hle⟩ := hc
            obtain ⟨ys, e1, rfl⟩ := Option.map_eq_some_iff.1 e
            have ho' : L'[id]? = some (some (.arr sz' es t)) := by
              cases hx : L'[id]? with
              | none => rw [hx] at ho; simp at ho
              | some z => rw [hx] at ho; simp at ho; rw [ho]
            simp only [VRel] at h ⊢
            obtain ⟨p, a, cap, h1, h2, h3, h4, h5⟩ := h
            obtain ⟨c, fr, vs, g1, g2, g3, g4, g5, g6, g7, g8⟩ := hr'.obj id _ p ho' h1
            have hlv := g5.length
            have hn : ((es.drop off).take n).length = n := by simp; omega
            rw [mapM_len e1, hn]
            refine ⟨a, cap, (vs.drop off).take n, h3, h4, mapM_rel ih e1 ((g5.drop off).take n), fun u hu => g6 u (List.mem_of_mem_drop (List.mem_of_mem_take hu)), ?_⟩
            intro j hj
            rw [flat_take (fun u hu => g6 u (List.mem_of_mem_drop hu)), flat_drop g6] at hj ⊢
            rw [List.length_take, List.length_drop, flat_length g6] at hj
            have hj2 : j < n * sz' := by omega
            have hcap : cap ≠ 0 := by
              intro h0
              have : n = 0 := by omega
              subst this
              simp at hj2
            obtain ⟨ha, hroom⟩ := h5 hcap
            rw [h2] at ha hroom
            subst ha
            have hb := hfree id _ p (by omega) ho' h1 _ g1
            have hj3 : off * sz' + j < (flat vs).length := by rw [flat_length g6]; omega
            rw [addr_add0]
            unfold fzc
            simp only [Option.isSome_none, Bool.false_eq_true, if_false, hb]
            rw [List.getElem?_take, if_pos hj2, List.getElem?_drop]
            rw [← g8 _ hj3, Nat.add_assoc]
          · simp at e
        · simp at e
    | ptr id off =>
      simp only [frz] at e
      split at e
      · rename_i hid
        simp only [Option.some.injEq] at e; subst e
        simp only [VRel] at h ⊢
        obtain ⟨p, h1, h2⟩ := h
        exact ⟨p, prefix_back hpre (by omega) h1, h2⟩
      · rename_i hid
        split at e
        · rename_i cs t ho
          split at e
          · rename_i hle
            obtain ⟨ys, e1, rfl⟩ := Option.map_eq_some_iff.1 e
            have ho' : L'[id]? = some (some (.cells cs t)) := by
              cases hx : L'[id]? with
              | none => rw [hx] at ho; simp at ho
              | some z => rw [hx] at ho; simp at ho; rw [ho]
            simp only [VRel] at h ⊢
            obtain ⟨p, h1, h2⟩ := h
            obtain ⟨c, fr, g1, g2, g3, g4, g5⟩ := hr'.obj id _ p ho' h1
            refine ⟨⟨p.blk, p.sh + off, none⟩, c.toList.drop off, h2, mapM_rel ih e1 (g5.drop off), ?_⟩
            intro j hj
            have hb := hfree id _ p (by omega) ho' h1 _ g1
            rw [addr_add0]
            unfold fzc
            simp only [Option.isSome_none, Bool.false_eq_true, if_false, hb, g3, Nat.zero_add]
            rw [List.getElem?_drop]
            simp
          · simp at e
        · simp at e
    | map id =>
      simp only [frz] at e
      split at e
      · rename_i hid
        simp only [Option.some.injEq] at e; subst e
        simp only [VRel] at h ⊢
        obtain ⟨p, h1, h2⟩ := h
        exact ⟨p, prefix_back hpre (by omega) h1, h2⟩
      · simp at e
    | ep a b c => simp [frz] at e
    | yld l => simp [frz] at e
    | ifc t x => simp [frz] at e
    | any => simp [frz] at e

/-- What a call gives back, frozen where that is asked. -/
def settleZ (z : Bool) (H : Hp) (v : AV) (H' : Hp) : AV × Option Hp :=
  match z with
  | false => settle H v H'
  | true =>
    if keeps H H' then
      match frz H'.l H.l.length 16 v with
      | some u => (u, none)
      | none => settle H v H'
    else settle H v H'

theorem settleZ_le {z : Bool} {H H' : Hp} {v u : AV} {h : Option Hp} (hl : HLe { H with d := none } H') (e : settleZ z H v H' = (u, h)) : Le? H h := by
  cases z with
  | false => exact settle_le hl e
  | true =>
    simp only [settleZ] at e
    split at e
    · split at e
      · simp only [Prod.mk.injEq] at e; obtain ⟨_, rfl⟩ := e; exact Le?.none H
      · exact settle_le hl e
    · exact settle_le hl e

theorem settleZ_sound {P : Program} {z : Bool} {ι ι' : Io} {H H' : Hp} {w w' : World} {v u : AV} {cv : Value} {h : Option Hp} (hr : RelH (PCof P) ι H.l w) (hl : HLe { H with d := none } H') (s : Stp ι H.l w ι' H'.l w') (hr' : RelH (PCof P) ι' H'.l w') (hv : VRel ι' (fzOf ι' H'.l w') v cv)
    (e : settleZ z H v H' = (u, h)) : Left P ι H.l w u (h.getD H).l cv w' := by
  cases z with
  | false => exact settle_sound hr hl s hr' hv e
  | true =>
    simp only [settleZ] at e
    split at e
    · rename_i hk
      split at e
      · rename_i y hy
        simp only [Prod.mk.injEq] at e; obtain ⟨rfl, rfl⟩ := e
        have hp : ∀ i, i < H.l.length → H'.l[i]? = H.l[i]? := by
          intro i hi
          refine hl.pre i hi fun m hm => ?_
          unfold keeps at hk
          rw [hm] at hk
          simp only [decide_eq_true_eq] at hk
          omega
        obtain ⟨r1, r2, r3⟩ := hr.restore hr' s hp
        exact ⟨ι, r2, r1, frz_rel hr.len s.pre hr' hp r3 (fun k hk => (s.xs k (hr.xlt k hk)).2 hk) 16 v y cv hy hv⟩
      · exact settle_sound hr hl s hr' hv e
    · exact settle_sound hr hl s hr' hv e

end Go.Proofs.Eng
