/- The functions of the reference of chapter 1 that go on for a whole text, run by the engine. -/
import Derived.Test.YtombplnoeikhoaaWRef01
set_option linter.unusedVariables false
set_option linter.unusedSimpArgs false
set_option maxRecDepth 100000
namespace Go.Proofs.Eng
open Go
section
variable {Γ : Sums} {A : Tab} {N : Nat → Nat}

theorem rstop_fuel : ∀ (k j at' : Nat) (b : List UInt8), b.length ≤ k → b.length ≤ j → rstop k at' b = rstop j at' b
  | 0, 0, _, _, _, _ => rfl
  | 0, j + 1, at', b, h, _ => by
    have : b = [] := by cases b with | nil => rfl | cons => simp at h
    subst this; simp [rstop, rfirst]
  | k + 1, 0, at', b, _, h => by
    have : b = [] := by cases b with | nil => rfl | cons => simp at h
    subst this; simp [rstop, rfirst]
  | k + 1, j + 1, at', b, h1, h2 => by
    simp only [rstop]
    rcases rfirst_bound b with h | ⟨h3, h4, h5⟩
    · simp [h]
    · have hne : ¬ (rfirst b).2 = 0 := by omega
      rw [if_neg hne, if_neg hne, rstop_fuel k j _ _ (by simp; omega) (by simp; omega)]
theorem rstop_stop {at' : Nat} {b : List UInt8} (h : (rfirst b).2 = 0) (k : Nat) : rstop k at' b = at' := by
  cases k with
  | zero => rfl
  | succ k => simp [rstop, h]
theorem rstop_step {at' : Nat} {b : List UInt8} (h : (rfirst b).2 ≠ 0) : rstop b.length at' b = rstop (b.drop (rfirst b).2.toNat).length (at' + (rfirst b).2.toNat) (b.drop (rfirst b).2.toNat) := by
  rcases rfirst_bound b with h' | ⟨h3, h4, h5⟩
  · exact absurd h' h
  · obtain ⟨k, hk⟩ : ∃ k, b.length = k + 1 := ⟨b.length - 1, by omega⟩
    rw [hk]
    simp only [rstop]
    rw [if_neg h, rstop_fuel k _ _ _ (by simp; omega) (Nat.le_refl _)]

theorem ref01_Signs_call (h : Ref01 Γ A N) (x : AV) (b : List UInt8) (H : Hp) (hx : VBytes H x b) (hbl : b.length < 2 ^ 36) :
    ∃ p s hh os1 os2, (lim Γ A).call (f_ref01_Signs N) [x] H = some (.tup [p, s, avInt .i64 (stopOf b)], hh) ∧ Row (t_int N) 1 p ((allOf b).map fun q => avInt .i64 q.1) os1 ∧ Row (t_int N) 1 s ((allOf b).map fun q => avInt .i64 q.2) os2 ∧ Adds H hh (os1 ++ os2) := by
  have hlen := Vw.len hx
  rw [List.length_map] at hlen
  obtain ⟨R, hR⟩ : ∃ R : AV × Option Hp → Prop, R = fun r => ∃ p s hh os1 os2, r = (.tup [p, s, avInt .i64 (stopOf b)], hh) ∧ Row (t_int N) 1 p ((allOf b).map fun q => avInt .i64 q.1) os1 ∧ Row (t_int N) 1 s ((allOf b).map fun q => avInt .i64 q.2) os2 ∧ Adds H hh (os1 ++ os2) := ⟨_, rfl⟩
  have key : ∃ r, (lim Γ A).call (f_ref01_Signs N) [x] H = some r ∧ R r := by
    apply h.signs.callP (by rfl)
    simp [C_ref01_Signs]
    refine wp_round (fun k ρ H' => ∃ (i at' : Nat) (p s : AV) (os1 os2 : List (Nat × AObj)), ρ 0 = x ∧ ρ 5 = p ∧ ρ 6 = s ∧ ρ 7 = avInt .i64 at' ∧ at' ≤ b.length ∧ i ≤ at' ∧
        Row (t_int N) 1 p (((allOf b).take i).map fun q => avInt .i64 q.1) os1 ∧ Row (t_int N) 1 s (((allOf b).take i).map fun q => avInt .i64 q.2) os2 ∧ Loc H H' (os1 ++ os2) ∧
        (allOf b).drop i = rsigns (b.drop at').length at' (b.drop at') ∧ rstop (b.drop at').length at' (b.drop at') = stopOf b ∧ k = b.length - at') (n := b.length) ?_ ?_
    · refine ⟨0, 0, _, _, [(H.l.length, .arr 1 [] (t_int N))], [(H.l.length + 1, .arr 1 [] (t_int N))], by simp, by simp; rfl, by simp; rfl, by simp, by omega, by omega, ?_, ?_, ?_, by simp [allOf], by simp [stopOf], by simp⟩
      · exact Row.mk _ _ _ []
      · exact Row.mk _ _ _ []
      · have := (((Loc.start H).alloc (.arr 1 [] (t_int N))).alloc (.arr 1 [] (t_int N)))
        simp at this
        exact this.perm (List.Perm.swap _ _ _)
    · rintro k ρ H' ⟨i, at', p, s, os1, os2, r0, r5, r6, r7, hat, hia, hp, hs, hL, hd, hst, rfl⟩
      have fin' : ∀ ρ : Rho, ρ 0 = x → ρ 5 = p → ρ 6 = s → ρ 7 = avInt .i64 at' → rsigns (b.drop at').length at' (b.drop at') = [] → rstop (b.drop at').length at' (b.drop at') = at' → wp (lim Γ A) none (K_ref01_Signs_1 N) ρ H' (Ends [.inl 2, .inl 3, .inl 4] false H R) := by
        intro ρ r0 r5 r6 r7 e1 e2
        rw [e1] at hd
        rw [e2] at hst
        have hti : (allOf b).take i = allOf b := List.take_of_length_le (List.drop_eq_nil_iff.1 hd)
        rw [hti] at hp hs
        obtain ⟨hh, f1, f2⟩ := settle_adds (v := .tup [p, s, avInt .i64 at']) hL (by
          intro hu
          simp only [AV.under, AV.unders, Bool.and_true, Bool.and_eq_true] at hu
          rw [hp.under hL (fun q hq => List.mem_append_left _ hq) hu.1, hs.under hL (fun q hq => List.mem_append_right _ hq) hu.2]; rfl)
        simp [K_ref01_Signs_1, r5, r6, r7]
        rw [f1, hR, hst]
        exact ⟨p, s, hh, os1, os2, rfl, hp, hs, f2⟩
      by_cases hlt : at' < b.length
      · have hlt' : (at' : Int) < b.length := by omega
        have hxv := Vw.loc hx hL
        obtain ⟨y, hy1, hy2⟩ := Vw.from' hxv (k := .i64) (i := (at' : Int)) (by omega) (by simp; omega)
        rw [Int.toNat_natCast, ← List.map_drop] at hy2
        have hf := ref01_First_call h y (b.drop at') H' hy2 (by rw [List.length_drop]; omega)
        rcases rfirst_bound (b.drop at') with hz | ⟨h3, h4, h5⟩
        · simp [L_ref01_Signs_1, r0, r5, r6, r7, hlen, hlt', hy1, hf, hz]
          refine fin' _ ?_ ?_ ?_ ?_ (rsigns_stop hz _) ?_ <;> try simp [r0, r5, r6, r7]
          exact rstop_stop hz _
        · have hz : ¬ (rfirst (b.drop at')).2 = 0 := by omega
          have hd2 := hd
          rw [rsigns_step hz] at hd2
          have hi : i < (allOf b).length := by
            rcases Nat.lt_or_ge i (allOf b).length with h | h
            · exact h
            · rw [List.drop_eq_nil_of_le h] at hd2; cases hd2
          rw [List.drop_eq_getElem_cons hi] at hd2
          injection hd2 with hs1 hs2
          have htk : (allOf b).take (i + 1) = (allOf b).take i ++ [(at', (rfirst (b.drop at')).1)] := by rw [List.take_succ_eq_append_getElem hi, hs1]
          rw [List.length_drop] at h5
          have hil : ((allOf b).take i).length = i := by simp; omega
          have hL1 := (hL.alloc (.arr 1 [avInt .i64 at'] (t_int N))).perm (os' := os1 ++ (H'.l.length, .arr 1 [avInt .i64 at'] (t_int N)) :: os2) List.perm_middle.symm
          obtain ⟨p2, H2, os1', a1, a2, a3⟩ := hp.append (bytes := 8) (ys := [avInt .i64 at']) hL1 (by simp) (by simp [roomMax]; omega) (by simp)
          have hL2 := (a3.perm (os' := os2 ++ (H'.l.length, .arr 1 [avInt .i64 at'] (t_int N)) :: os1') (by
            refine (List.perm_append_comm).trans ?_
            simp only [List.cons_append]
            exact List.perm_middle.symm)).alloc (.arr 1 [avInt .i64 (rfirst (b.drop at')).1] (t_int N))
          have hL3 := hL2.perm (os' := os2 ++ (H2.l.length, .arr 1 [avInt .i64 (rfirst (b.drop at')).1] (t_int N)) :: (H'.l.length, .arr 1 [avInt .i64 at'] (t_int N)) :: os1') List.perm_middle.symm
          obtain ⟨s2, H3, os2', b1, b2, b3⟩ := hs.append (bytes := 8) (ys := [avInt .i64 (rfirst (b.drop at')).1]) hL3 (by simp) (by simp [roomMax]; omega) (by simp)
          have e1 : asElems (halloc H' (.arr 1 [avInt .i64 at'] (t_int N))) (.ra 1 H'.l.length 0 1) = some [avInt .i64 at'] := by simp [asElems]
          have e2 : asElems (halloc H2 (.arr 1 [avInt .i64 (rfirst (b.drop at')).1] (t_int N))) (.ra 1 H2.l.length 0 1) = some [avInt .i64 (rfirst (b.drop at')).1] := by simp [asElems]
          have hw : IntKind.wrap .i64 ((at' : Int) + (rfirst (b.drop at')).2) = ((at' + (rfirst (b.drop at')).2.toNat : Nat) : Int) := by rw [wrap64 (by omega) (by omega)]; omega
          simp [L_ref01_Signs_1, r0, r5, r6, r7, hlen, hlt', hy1, hf, hz, e1, a1, e2, b1, hw, -Int.natCast_add]
          refine ⟨b.length - (at' + (rfirst (b.drop at')).2.toNat), by omega, i + 1, at' + (rfirst (b.drop at')).2.toNat, rfl, by omega, by omega, os1', ?_, os2', ?_, ?_, ?_, ?_, rfl⟩
          · rw [← List.map_take, htk]; simpa using a2
          · rw [← List.map_take, htk]; simpa using b2
          · refine (b3.sub (os' := os2' ++ os1') ?_).perm List.perm_append_comm
            refine List.Sublist.append (List.Sublist.refl _) ?_
            exact ((List.Sublist.refl _).cons _).cons _
          · rw [hs2, List.drop_drop, List.length_drop]
          · rw [← hst, rstop_step hz, List.drop_drop, List.length_drop]
      · have hlt' : ¬ (at' : Int) < b.length := by omega
        simp [L_ref01_Signs_1, r0, r5, r6, r7, hlen, hlt']
        refine fin' _ ?_ ?_ ?_ ?_ ?_ ?_ <;> try simp [r0, r5, r6, r7]
        · rw [List.drop_eq_nil_of_le (by omega)]; exact rsigns_stop rfl _
        · rw [List.drop_eq_nil_of_le (by omega)]; exact rstop_stop rfl _
  obtain ⟨r, e, e2⟩ := key
  rw [hR] at e2
  obtain ⟨p, s, hh, os1, os2, rfl, e2⟩ := e2
  exact ⟨p, s, hh, os1, os2, e, e2⟩
end
end Go.Proofs.Eng
