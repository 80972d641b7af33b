/- Where, of package runes and of the reference, run by the engine. -/
import Derived.Test.YtombplnoeikhoaaWRunesP
set_option linter.unusedVariables false
set_option linter.unusedSimpArgs false
set_option maxRecDepth 100000
namespace Go.Proofs.Eng
open Go

/-! ### Plain -/
/-- A sign more: is it a line feed? -/
def wstep (p : Int × Int) (nl : Bool) : Int × Int := if nl then (p.1 + 1, 1) else (p.1, p.2 + 1)
/-- All places, and whether a line feed stands there. -/
def wplaces (b : List UInt8) : List (Nat × Bool) := (allOf b).map (fun p => (p.1, decide (p.2 = 10))) ++ ((List.range' (stopOf b) (b.length - stopOf b)).map fun i => (i, decide ((b.getD i 0).toNat = 10)))
def wgo (at' : Int) (s : Int × Int) : List (Nat × Bool) → Int × Int
  | [] => s
  | p :: l => if (p.1 : Int) < at' then wgo at' (wstep s p.2) l else s
def whereOf (b : List UInt8) (at' : Int) : Int × Int := wgo at' (1, 1) (wplaces b)

theorem rfirst_nl {b : List UInt8} (h : (rfirst b).2 ≠ 0) : decide ((rfirst b).1 = 10) = decide ((b.getD 0 0).toNat = 10) := by
  cases b with
  | nil => exact absurd rfl h
  | cons x l =>
    rcases rfirst_form h with ⟨h1, h2⟩ | ⟨h1, h2, h3, _⟩
    · simp [rfirst, h1]; omega
    · have h4 := rfirst_size (x :: l) h
      rw [h2] at h4
      have h5 : (rfirst (x :: l)).1 ≠ 10 := by
        intro hc
        rw [hc] at h4
        simp [runeSize] at h4
        omega
      simp [h5]; omega
theorem rsigns_nl : ∀ (k at' : Nat) (c b : List UInt8), c = b.drop at' → ∀ p ∈ rsigns k at' c, decide (p.2 = 10) = decide ((b.getD p.1 0).toNat = 10)
  | 0, at', c, b, hc => by simp [rsigns]
  | k + 1, at', c, b, hc => by
    intro p hp
    simp only [rsigns] at hp
    split at hp
    · simp at hp
    · rename_i h
      rcases List.mem_cons.1 hp with rfl | hp
      · simp only []
        rw [rfirst_nl h, hc]
        simp [List.getD_eq_getElem?_getD]
      · exact rsigns_nl k _ _ b (by rw [hc, List.drop_drop]) p hp

theorem wplaces_nl {b : List UInt8} : ∀ p ∈ wplaces b, p.2 = decide ((b.getD p.1 0).toNat = 10) ∧ p.1 < b.length := by
  intro p hp
  unfold wplaces at hp
  rcases List.mem_append.1 hp with hp | hp
  · obtain ⟨q, hq, rfl⟩ := List.mem_map.1 hp
    exact ⟨rsigns_nl b.length 0 b b rfl q hq, by have := rsigns_le _ _ _ q hq; simpa using this⟩
  · obtain ⟨q, hq, rfl⟩ := List.mem_map.1 hp
    have := rstop_le b.length 0 b
    rw [List.mem_range'_1] at hq
    exact ⟨rfl, by simp only []; unfold stopOf at hq; omega⟩
theorem wgo_min {at' : Int} {n : Nat} : ∀ {l : List (Nat × Bool)} {s : Int × Int}, (∀ p ∈ l, p.1 < n) → wgo (min at' n) s l = wgo at' s l
  | [], s, _ => rfl
  | p :: l, s, h => by
    have h1 := h p (by simp)
    simp only [wgo]
    by_cases hc : (p.1 : Int) < at'
    · rw [if_pos hc, if_pos (by omega)]; exact wgo_min (fun q hq => h q (by simp [hq]))
    · rw [if_neg hc, if_neg (by omega)]
theorem wplaces_len {b : List UInt8} : (wplaces b).length ≤ b.length + b.length := by
  unfold wplaces
  have : (allOf b).length ≤ b.length := rsigns_len _ _ _
  simp; omega

section
variable {Γ : Sums} {A : Tab} {N : Nat → Nat}

theorem ref01_Where_call (hr : Ref01 Γ A N) (h : Has Γ A (f_ref01_Where N) (C_ref01_Where N)) (x : AV) (b : List UInt8) (at' : Int) (H : Hp) (hx : VBytes H x b) (hb : b.length < 2 ^ 34) :
    (lim Γ A).call (f_ref01_Where N) [x, avInt .i64 at'] H = some (.tup [avInt .i64 (whereOf b at').1, avInt .i64 (whereOf b at').2], none) := by
  apply h.call (by rfl)
  obtain ⟨p, s, hh, os1, os2, e1, hp, hs, hA⟩ := ref01_Signs_call hr x b { l := H.l, d := none } (Vw.dd hx none) (by omega)
  obtain ⟨G, hG⟩ : ∃ G, hh.getD { l := H.l, d := none } = G := ⟨_, rfl⟩
  have hL0 := hA.loc (Loc.start H)
  rw [hG] at hL0
  have hL0 : Loc H G (os1 ++ os2) := by simpa using hL0
  have hlen := Vw.len hx
  rw [List.length_map] at hlen
  have hsl : stopOf b ≤ b.length := by have := rstop_le b.length 0 b; unfold stopOf; omega
  simp [C_ref01_Where, e1, bindH_opt, hG]
  -- the places behind the signs
  refine wp_round (fun k ρ H' => ∃ (i : Nat) (p : AV) (os : List (Nat × AObj)), ρ 0 = x ∧ ρ 1 = avInt .i64 at' ∧ ρ 6 = p ∧ ρ 9 = avInt .i64 i ∧ stopOf b ≤ i ∧ i ≤ b.length ∧
      Row (t_int N) 1 p (((allOf b).map fun q => avInt .i64 q.1) ++ (List.range' (stopOf b) (i - stopOf b)).map fun (j : Nat) => avInt .i64 (j : Int)) os ∧ Loc H H' (os ++ os2) ∧ k = b.length - i) (n := b.length - stopOf b) ?_ ?_
  · exact ⟨stopOf b, p, os1, by simp, by simp, by simp, by simp, Nat.le_refl _, hsl, by simpa using hp, hL0, rfl⟩
  · rintro k ρ H' ⟨i, p, os, r0, r1, r6, r9, hi1, hi2, hp, hL, rfl⟩
    by_cases hlt : i < b.length
    · have hlt' : (i : Int) < b.length := by omega
      have hL1 := (hL.alloc (.arr 1 [avInt .i64 i] (t_int N))).perm (os' := os ++ (H'.l.length, .arr 1 [avInt .i64 i] (t_int N)) :: os2) List.perm_middle.symm
      have hal : (allOf b).length ≤ b.length := rsigns_len _ _ _
      obtain ⟨p2, H2, os', a1, a2, a3⟩ := hp.append (bytes := 8) (ys := [avInt .i64 i]) hL1 (by simp) (by simp [roomMax]; omega) (by simp)
      have e2 : asElems (halloc H' (.arr 1 [avInt .i64 i] (t_int N))) (.ra 1 H'.l.length 0 1) = some [avInt .i64 i] := by simp [asElems]
      have hw : IntKind.wrap .i64 ((i : Int) + 1) = ((i + 1 : Nat) : Int) := by rw [wrap64 (by omega) (by omega)]; omega
      simp [L_ref01_Where_1, r0, r1, r6, r9, hlen, hlt', e2, a1, hw, -Int.natCast_add]
      refine ⟨b.length - (i + 1), by omega, i + 1, rfl, by omega, by omega, os', ?_, a3.sub ?_, rfl⟩
      · have : i + 1 - stopOf b = (i - stopOf b) + 1 := by omega
        rw [this, List.range'_concat]
        simp only [List.map_append, List.map_cons, List.map_nil]
        have h2 : stopOf b + 1 * (i - stopOf b) = i := by omega
        rw [h2]
        simpa [List.append_assoc] using a2
      · exact List.Sublist.append (List.Sublist.refl _) ((List.Sublist.refl _).cons _)
    · have hlt' : ¬ (i : Int) < b.length := by omega
      have hie : i = b.length := by omega
      subst hie
      have hlist : (((allOf b).map fun q => avInt .i64 q.1) ++ (List.range' (stopOf b) (b.length - stopOf b)).map fun (j : Nat) => avInt .i64 (j : Int)) = (wplaces b).map fun q => avInt .i64 q.1 := by
        unfold wplaces
        simp [List.map_append, Function.comp_def]
      rw [hlist] at hp
      have hvp := hp.vw hL
      have hlp := hvp.len
      rw [List.length_map] at hlp
      have hwl := wplaces_len (b := b)
      simp [L_ref01_Where_1, K_ref01_Where_1, r0, r1, r6, r9, hlen, hlp]
      have hxv := Vw.loc hx hL
      refine wp_round (fun k ρ H2 => H2 = H' ∧ ∃ (i : Nat) (ln c : Int), ρ 0 = x ∧ ρ 1 = avInt .i64 at' ∧ ρ 10 = avInt .i64 ln ∧ ρ 11 = avInt .i64 c ∧ ρ 31 = p ∧ ρ 32 = avInt .i64 (wplaces b).length ∧ ρ 33 = avInt .i64 i ∧
          i ≤ (wplaces b).length ∧ 1 ≤ ln ∧ ln ≤ i + 1 ∧ 1 ≤ c ∧ c ≤ i + 1 ∧ wgo at' (ln, c) ((wplaces b).drop i) = whereOf b at' ∧ k = (wplaces b).length - i) (n := (wplaces b).length) ?_ ?_
      · exact ⟨rfl, 0, 1, 1, by simp [r0], by simp [r1], by simp, by simp, by simp, by simp, by simp, by omega, by omega, by omega, by omega, by omega, by simp [whereOf], by omega⟩
      · rintro k ρ H2 ⟨rfl, i, ln, c, r0, r1, r10, r11, r31, r32, r33, hi, hn1, hn2, hc1, hc2, hg, rfl⟩
        have fin : ∀ ρ : Rho, ρ 10 = avInt .i64 ln → ρ 11 = avInt .i64 c → (ln, c) = whereOf b at' → wp (lim Γ A) none (K_ref01_Where_2 N) ρ H2 (Ends [.inl 4, .inl 5] false H fun p => p = (.tup [avInt .i64 (whereOf b at').1, avInt .i64 (whereOf b at').2], none)) := by
          intro ρ r10 r11 e
          rw [← e]
          simp [K_ref01_Where_2, r10, r11]
          exact settle_keeps hL.keeps (by simp [AV.under, AV.unders])
        by_cases hlt2 : i < (wplaces b).length
        · have hlt2' : (i : Int) < (wplaces b).length := by omega
          obtain ⟨p1, b1, b2⟩ := hvp.at' (k := .i64) (i := (i : Int)) (e := avInt .i64 (wplaces b)[i].1) (by omega) (by simp [hlt2]) rfl rfl rfl
          have hnl := wplaces_nl _ (List.getElem_mem hlt2)
          rw [List.drop_eq_getElem_cons hlt2] at hg
          simp only [wgo] at hg
          by_cases hpa : ((wplaces b)[i].1 : Int) < at'
          · have hpa' : ¬ at' ≤ ((wplaces b)[i].1 : Int) := by omega
            rw [if_pos hpa] at hg
            obtain ⟨p2, c1, c2⟩ := VBytes.at' hxv (k := .i64) (i := ((wplaces b)[i].1 : Int)) (by omega) (by simpa using hnl.2)
            simp only [Int.toNat_natCast] at c1 c2
            have hgd : b.getD (wplaces b)[i].1 0 = b[(wplaces b)[i].1]'hnl.2 := by simp [List.getD_eq_getElem?_getD, List.getElem?_eq_getElem hnl.2]
            rw [hgd] at hnl
            have hw1 : IntKind.wrap .i64 (c + 1) = c + 1 := wrap64 (by omega) (by omega)
            have hw2 : IntKind.wrap .i64 (ln + 1) = ln + 1 := wrap64 (by omega) (by omega)
            have hw3 : IntKind.wrap .i64 ((i : Int) + 1) = ((i + 1 : Nat) : Int) := by rw [wrap64 (by omega) (by omega)]; omega
            by_cases hten : (b[(wplaces b)[i].1]'hnl.2).toNat = 10
            · have hten' : ((b[(wplaces b)[i].1]'hnl.2).toNat : Int) = 10 := by omega
              rw [hnl.1, hten] at hg
              simp only [decide_true, wstep, if_true] at hg
              simp [L_ref01_Where_2, r0, r1, r10, r11, r31, r32, r33, hlt2', b1, b2, hpa', c1, c2, avByte, hten', hw1, hw2, hw3, -Int.natCast_add]
              exact ⟨_, by omega, i + 1, rfl, by omega, by omega, by omega, by omega, hg, rfl⟩
            · have hten' : ¬ ((b[(wplaces b)[i].1]'hnl.2).toNat : Int) = 10 := by omega
              rw [hnl.1] at hg
              simp only [hten, decide_false, wstep, Bool.false_eq_true, if_false] at hg
              simp [L_ref01_Where_2, r0, r1, r10, r11, r31, r32, r33, hlt2', b1, b2, hpa', c1, c2, avByte, hten', hw1, hw2, hw3, -Int.natCast_add]
              exact ⟨_, by omega, i + 1, rfl, by omega, by omega, by omega, by omega, by omega, hg, rfl⟩
          · have hpa' : at' ≤ ((wplaces b)[i].1 : Int) := by omega
            rw [if_neg hpa] at hg
            simp [L_ref01_Where_2, r0, r1, r10, r11, r31, r32, r33, hlt2', b1, b2, hpa']
            exact fin _ (by simp [r10]) (by simp [r11]) hg
        · have hlt2' : ¬ (i : Int) < (wplaces b).length := by omega
          rw [List.drop_eq_nil_of_le (by omega)] at hg
          simp [L_ref01_Where_2, r0, r1, r10, r11, r31, r32, r33, hlt2']
          exact fin _ (by simp [r10]) (by simp [r11]) hg
end
end Go.Proofs.Eng
