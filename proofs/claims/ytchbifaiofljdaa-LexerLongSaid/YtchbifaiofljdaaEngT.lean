/- The engine, part T: what a call gives back; the heap as it was, where nothing old was written. -/
import Derived.Test.YtchbifaiofljdaaEngS
set_option linter.unusedVariables false
set_option linter.unusedSimpArgs false
namespace Go.Proofs.Eng
open Go Go.RowKit

/-! ### Values that name old objects alone -/
mutual
def AV.under (n : Nat) : AV → Bool
  | .lit _ => true
  | .agg xs => AV.unders n xs
  | .tup xs => AV.unders n xs
  | .sl _ xs => AV.unders n xs
  | .ra _ id _ _ => decide (id < n)
  | .ptr id _ => decide (id < n)
  | .ep id _ _ => decide (id < n)
  | .vp xs => AV.unders n xs
  | .map id => decide (id < n)
  | .fn _ fs cs => AV.unders n fs && AV.unders n cs
  | .yld l => decide (l < n)
  | .ifc _ x => AV.under n x
  | .any => true
def AV.unders (n : Nat) : List AV → Bool
  | [] => true
  | x :: xs => AV.under n x && AV.unders n xs
end

mutual
theorem under_of {ι : List Pl} {fz : Fz} : ∀ (x : AV) (v : Value), VRel ι fz x v → x.under ι.length = true
  | .lit x, v => fun h => rfl
  | .agg xs, v => fun h => by simp only [VRel] at h; obtain ⟨cs, _, h⟩ := h; exact unders_of xs _ h
  | .tup xs, v => fun h => by simp only [VRel] at h; obtain ⟨cs, _, h⟩ := h; exact unders_of xs _ h
  | .sl sz xs, v => fun h => by simp only [VRel] at h; obtain ⟨a, cap, vs, _, _, h, _⟩ := h; exact unders_of xs _ h
  | .ra sz id off n, v => fun h => by simp only [VRel] at h; obtain ⟨p, a, cap, h, _⟩ := h; simp only [AV.under, decide_eq_true_eq]; exact (List.getElem?_eq_some_iff.1 h).1
  | .ptr id off, v => fun h => by simp only [VRel] at h; obtain ⟨p, h, _⟩ := h; simp only [AV.under, decide_eq_true_eq]; exact (List.getElem?_eq_some_iff.1 h).1
  | .ep id i o, v => fun h => by simp only [VRel] at h; obtain ⟨p, h, _⟩ := h; simp only [AV.under, decide_eq_true_eq]; exact (List.getElem?_eq_some_iff.1 h).1
  | .vp xs, v => fun h => by simp only [VRel] at h; obtain ⟨a, vs, _, h, _⟩ := h; exact unders_of xs _ h
  | .map id, v => fun h => by simp only [VRel] at h; obtain ⟨p, h, _⟩ := h; simp only [AV.under, decide_eq_true_eq]; exact (List.getElem?_eq_some_iff.1 h).1
  | .fn f fs cs, v => fun h => by simp only [VRel] at h; obtain ⟨as, bs, _, h1, h2⟩ := h; simp only [AV.under, Bool.and_eq_true]; exact ⟨unders_of fs _ h1, unders_of cs _ h2⟩
  | .yld l, v => fun h => by simp only [VRel] at h; obtain ⟨p, h, _⟩ := h; simp only [AV.under, decide_eq_true_eq]; exact (List.getElem?_eq_some_iff.1 h).1
  | .ifc t x, v => fun h => by simp only [VRel] at h; obtain ⟨u, _, h⟩ := h; exact under_of x _ h
  | .any, v => fun h => rfl
theorem unders_of {ι : List Pl} {fz : Fz} : ∀ (xs : List AV) (vs : List Value), VRels ι fz xs vs → AV.unders ι.length xs = true
  | [], vs => fun h => rfl
  | x :: xs, vs => fun h => by
    simp only [VRels] at h
    obtain ⟨u, us, _, h1, h2⟩ := h
    simp only [AV.unders, Bool.and_eq_true]
    exact ⟨under_of x u h1, unders_of xs us h2⟩
end

theorem prefix_back {ι ι' : List Pl} (h : ι <+: ι') {i : Nat} (hi : i < ι.length) {p : Pl} (e : ι'[i]? = some p) : ι[i]? = some p := by
  obtain ⟨t, rfl⟩ := h
  rw [List.getElem?_append_left hi] at e; exact e

mutual
theorem VRel.shrink {ι ι' : List Pl} {fz fz' : Fz} (hι : ι <+: ι') (hf : FzLe fz' fz) : ∀ (x : AV) (v : Value), x.under ι.length = true → VRel ι' fz' x v → VRel ι fz x v
  | .lit x, v => fun _ h => by simpa only [VRel] using h
  | .agg xs, v => fun hu h => by
    simp only [VRel] at h ⊢
    obtain ⟨cs, e, h⟩ := h
    exact ⟨cs, e, VRels.shrink hι hf xs _ hu h⟩
  | .tup xs, v => fun hu h => by
    simp only [VRel] at h ⊢
    obtain ⟨cs, e, h⟩ := h
    exact ⟨cs, e, VRels.shrink hι hf xs _ hu h⟩
  | .sl sz xs, v => fun hu h => by
    simp only [VRel] at h ⊢
    obtain ⟨a, cap, vs, e, hc, h, hs, hl⟩ := h
    exact ⟨a, cap, vs, e, hc, VRels.shrink hι hf xs _ hu h, hs, hl.mono hf⟩
  | .ra sz id off len, v => fun hu h => by
    simp only [VRel] at h ⊢
    simp only [AV.under, decide_eq_true_eq] at hu
    obtain ⟨p, a, cap, e, h⟩ := h
    exact ⟨p, a, cap, prefix_back hι hu e, h⟩
  | .ptr id off, v => fun hu h => by
    simp only [VRel] at h ⊢
    simp only [AV.under, decide_eq_true_eq] at hu
    obtain ⟨p, e, h⟩ := h
    exact ⟨p, prefix_back hι hu e, h⟩
  | .ep id idx inner, v => fun hu h => by
    simp only [VRel] at h ⊢
    simp only [AV.under, decide_eq_true_eq] at hu
    obtain ⟨p, e, h⟩ := h
    exact ⟨p, prefix_back hι hu e, h⟩
  | .vp xs, v => fun hu h => by
    simp only [VRel] at h ⊢
    obtain ⟨a, vs, e, h, hl⟩ := h
    exact ⟨a, vs, e, VRels.shrink hι hf xs _ hu h, hl.mono hf⟩
  | .map id, v => fun hu h => by
    simp only [VRel] at h ⊢
    simp only [AV.under, decide_eq_true_eq] at hu
    obtain ⟨p, e, h⟩ := h
    exact ⟨p, prefix_back hι hu e, h⟩
  | .fn f fs cs, v => fun hu h => by
    simp only [VRel] at h ⊢
    simp only [AV.under, Bool.and_eq_true] at hu
    obtain ⟨as, bs, e, h1, h2⟩ := h
    exact ⟨as, bs, e, VRels.shrink hι hf fs _ hu.1 h1, VRels.shrink hι hf cs _ hu.2 h2⟩
  | .yld l, v => fun hu h => by
    simp only [VRel] at h ⊢
    simp only [AV.under, decide_eq_true_eq] at hu
    obtain ⟨p, e, h⟩ := h
    exact ⟨p, prefix_back hι hu e, h⟩
  | .ifc t x, v => fun hu h => by
    simp only [VRel] at h ⊢
    obtain ⟨u, e, h⟩ := h
    exact ⟨u, e, VRel.shrink hι hf x _ hu h⟩
  | .any, v => fun _ h => by simp only [VRel]
theorem VRels.shrink {ι ι' : List Pl} {fz fz' : Fz} (hι : ι <+: ι') (hf : FzLe fz' fz) : ∀ (xs : List AV) (vs : List Value), AV.unders ι.length xs = true → VRels ι' fz' xs vs → VRels ι fz xs vs
  | [], vs => fun _ h => by simpa only [VRels] using h
  | x :: xs, vs => fun hu h => by
    simp only [VRels] at h ⊢
    simp only [AV.unders, Bool.and_eq_true] at hu
    obtain ⟨u, us, e, h1, h2⟩ := h
    exact ⟨u, us, e, VRel.shrink hι hf x u hu.1 h1, VRels.shrink hι hf xs us hu.2 h2⟩
end

theorem MRel.shrink {ι ι' : List Pl} {fz fz' fo : Fz} (hι : ι <+: ι') (hf : FzLe fz' fz) : ∀ {es : List (Value × AV × Nat)} {co ces : List MapEntry}, MRel ι fo es co → MRel ι' fz' es ces → MRel ι fz es ces
  | [], co, ces, _, h => h
  | x :: xs, co, ces, ho, h => by
    obtain ⟨e, r, e1, e2, e3, e4, e5⟩ := h
    obtain ⟨e', r', _, _, _, f4, f5⟩ := ho
    exact ⟨e, r, e1, e2, e3, VRel.shrink hι hf _ _ (under_of _ _ f4) e4, f5.shrink hι hf e5⟩

theorem ORel.shrink {PC : Code → AC → Prop} {ι ι' : List Pl} {fz fz' fo : Fz} {p q : Pl} {w w' : World} {o : AObj} (hι : ι <+: ι') (hf : FzLe fz' fz) (ho : ORel PC ι fo q w o) (h : ORel PC ι' fz' p w' o) : ORel PC ι fz p w' o := by
  cases o with
  | cells cs t =>
    obtain ⟨c, fr, h1, h2, h3, h4, h5⟩ := h
    obtain ⟨_, _, _, _, _, _, g5⟩ := ho
    exact ⟨c, fr, h1, h2, h3, h4, VRels.shrink hι hf _ _ (unders_of _ _ g5) h5⟩
  | arr sz es t =>
    obtain ⟨c, fr, vs, h1, h2, h3, h4, h5, h6⟩ := h
    obtain ⟨_, _, _, _, _, _, _, g5, _⟩ := ho
    exact ⟨c, fr, vs, h1, h2, h3, h4, VRels.shrink hι hf _ _ (unders_of _ _ g5) h5, h6⟩
  | map es clk =>
    obtain ⟨ces, h1, h2⟩ := h
    obtain ⟨_, _, g2⟩ := ho
    exact ⟨ces, h1, g2.shrink hι hf h2⟩
  | loop st pend τ ps asg body =>
    obtain ⟨l, h1, h2, h3, h4, h5⟩ := h
    obtain ⟨_, _, _, _, g4, _⟩ := ho
    exact ⟨l, h1, h2, h3, VRels.shrink hι hf _ _ (unders_of _ _ g4) h4, h5⟩

/-- Where nothing old was written, the old heap stands for the new memory. -/
theorem RelH.restore {PC : Code → AC → Prop} {ι ι' : List Pl} {L L' : HL} {w w' : World} (h : RelH PC ι L w) (h' : RelH PC ι' L' w') (s : Stp ι L w ι' L' w') (hp : ∀ i, i < L.length → L'[i]? = L[i]?) :
    RelH PC ι L w' ∧ Stp ι L w ι L w' ∧ FzLe (fzOf ι' L' w') (fzOf ι L w') := by
  have hfz : FzLe (fzOf ι' L' w') (fzOf ι L w') := by
    refine ⟨fun k c t f e => ?_⟩
    rw [fzOf_some] at e ⊢
    refine ⟨fun ho => e.1 ?_, e.2⟩
    obtain ⟨i, o, p, h1, h2, h3⟩ := ho
    exact ⟨i, o, p, (hp i (List.getElem?_eq_some_iff.1 h1).1).trans h1, prefix_get s.pre h2, h3⟩
  refine ⟨⟨h.len, fun i o p h1 h2 => ?_, h.inj⟩, ⟨List.prefix_refl _, s.os, s.tape, s.output, s.size, fun k hk hn => ⟨hn, (s.frame k hk hn).2⟩⟩, hfz⟩
  have hlt := (List.getElem?_eq_some_iff.1 h1).1
  exact (h.obj i o p h1 h2).shrink s.pre hfz (h'.obj i o p ((hp i hlt).trans h1) (prefix_get s.pre h2))

/-- What a call gives back: its value, and the heap as it was, where that may be. -/
def settle (H : Hp) (v : AV) (H' : Hp) : AV × Option Hp :=
  if keeps H H' && v.under H.l.length then (v, none) else (v, some { l := H'.l, d := dminO H.d H'.d })

theorem settle_le {H H' : Hp} {v u : AV} {h : Option Hp} (hl : HLe { H with d := none } H') (e : settle H v H' = (u, h)) : Le? H h := by
  unfold settle at e
  split at e
  · simp only [Prod.mk.injEq] at e; obtain ⟨_, rfl⟩ := e; exact Le?.none H
  · simp only [Prod.mk.injEq] at e; obtain ⟨_, rfl⟩ := e
    refine ⟨hl.len, fun m hm => ?_, fun i hi hd => ?_⟩
    · simp only [Option.getD_some, dminO]
      cases hd : H'.d with
      | none => exact ⟨m, hm, Nat.le_refl _⟩
      | some n =>
        obtain ⟨k, h1, h2, h3⟩ := dmin_some H.d n
        exact ⟨k, h1, h3 m hm⟩
    · refine hl.pre i hi fun m hm => ?_
      simp only [Option.getD_some, dminO, hm] at hd
      obtain ⟨k, h1, h2, h3⟩ := dmin_some H.d m
      exact Nat.lt_of_lt_of_le (hd k h1) h2

theorem settle_sound {P : Program} {ι ι' : List Pl} {H H' : Hp} {w w' : World} {v u : AV} {cv : Value} {h : Option Hp} (hr : RelH (PCof P) ι H.l w) (hl : HLe { H with d := none } H') (s : Stp ι H.l w ι' H'.l w') (hr' : RelH (PCof P) ι' H'.l w') (hv : VRel ι' (fzOf ι' H'.l w') v cv)
    (e : settle H v H' = (u, h)) : Left P ι H.l w u (h.getD H).l cv w' := by
  unfold settle at e
  split at e
  · rename_i hc
    simp only [Bool.and_eq_true] at hc
    simp only [Prod.mk.injEq] at e; obtain ⟨rfl, rfl⟩ := e
    have hp : ∀ i, i < H.l.length → H'.l[i]? = H.l[i]? := by
      intro i hi
      refine hl.pre i hi fun m hm => ?_
      have := hc.1
      unfold keeps at this
      rw [hm] at this
      simp only [decide_eq_true_eq] at this
      omega
    obtain ⟨r1, r2, r3⟩ := hr.restore hr' s hp
    exact ⟨ι, r2, r1, VRel.shrink s.pre r3 _ _ (by rw [hr.len]; exact hc.2) hv⟩
  · simp only [Prod.mk.injEq] at e; obtain ⟨rfl, rfl⟩ := e
    exact ⟨ι', s, hr', hv⟩

end Go.Proofs.Eng
