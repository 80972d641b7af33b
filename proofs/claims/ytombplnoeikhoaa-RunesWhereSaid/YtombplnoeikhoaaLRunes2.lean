/- The laws RunesJoin and RunesCuts, run by the engine. -/
import Derived.Test.YtombplnoeikhoaaWRunesP
import Derived.Test.YtombplnoeikhoaaLRunes1
set_option linter.unusedVariables false
set_option linter.unusedSimpArgs false
set_option maxRecDepth 100000
namespace Go.Proofs.Eng
open Go
section
variable {Γ : Sums} {A : Tab} {N : Nat → Nat}

theorem law_RunesJoin (hr : Runes Γ A N) (h : Has Γ A (f_law01_RunesJoin N) (C_law01_RunesJoin N)) (hlives : (lim Γ A).call (f_law01_lives N) [] H00 = some (avBool true, none))
    (x y : AV) (a b : List UInt8) (hx : IsBytes x a) (hy : IsBytes y b) (hm : a.length ≤ maxLen) (hm' : b.length ≤ maxLen) : ∃ r, (lim Γ A).ent (f_law01_RunesJoin N) [x, y] H00 = some r ∧ r.1 = avBool true := by
  apply h.entP (by rfl)
  have hla := hx.len
  have hlb := hy.len
  rw [List.length_map] at hla hlb
  simp only [maxLen] at hm hm'
  by_cases h4a : 400 < a.length
  · have h4a' : (400 : Int) < a.length := by omega
    simp [C_law01_RunesJoin, hlives, hla, h4a']
  · have h4a' : ¬ (400 : Int) < a.length := by omega
    by_cases h4b : 400 < b.length
    · have h4b' : (400 : Int) < b.length := by omega
      simp [C_law01_RunesJoin, hlives, hla, hlb, h4a', h4b']
    · have h4b' : ¬ (400 : Int) < b.length := by omega
      have ba := fun H => runes_Bad_call hr.toRunesAll hr.bad H (x := x) (b := a) (IsBytes.v hx) (by omega)
      have bb := fun H => runes_Bad_call hr.toRunesAll hr.bad H (x := y) (b := b) (IsBytes.v hy) (by omega)
      by_cases wa : 0 ≤ badOf a
      · simp [C_law01_RunesJoin, hlives, hla, hlb, h4a', h4b', ba, wa]
      · by_cases wb : 0 ≤ badOf b
        · simp [C_law01_RunesJoin, hlives, hla, hlb, h4a', h4b', ba, wa, bb, wb]
        · have hwa : wfB a := wf_bad.1 (by omega)
          have hwb : wfB b := wf_bad.1 (by omega)
          have ca := fun H => runes_Count_call hr.toRunesAll hr.count H (x := x) (b := a) (IsBytes.v hx) (by omega)
          have cb := fun H => runes_Count_call hr.toRunesAll hr.count H (x := y) (b := b) (IsBytes.v hy) (by omega)
          have ea := fun H => Fzr.elems (H := H) hx
          have eb := fun H => Fzr.elems (H := H) hy
          obtain ⟨e1, e2⟩ := wf_app a.length (b := b) (Nat.le_refl _) hwa
          have hwc : wfB (a ++ b) := by show stopOf (a ++ b) = (a ++ b).length; rw [e1, List.length_append, show stopOf b = b.length from hwb]
          have hga : (a.map avByte).all (fun y => y.good && y.cells.length == 1) = true := by simp
          have hgb : (b.map avByte).all (fun y => y.good && y.cells.length == 1) = true := by simp
          have hap1 : appendOn (halloc H00 (.arr 1 [] (t_uint8 N))) (t_uint8 N) 1 1 (.ra 1 0 0 0) (a.map avByte) = some (.ra 1 1 0 a.length, some (halloc (hset (halloc H00 (.arr 1 [] (t_uint8 N))) 0 none) (.arr 1 (a.map avByte) (t_uint8 N)))) := by
            simp [appendOn, roomMax]; omega
          have hap2 : appendOn (halloc (hset (halloc H00 (.arr 1 [] (t_uint8 N))) 0 none) (.arr 1 (a.map avByte) (t_uint8 N))) (t_uint8 N) 1 1 (.ra 1 1 0 a.length) (b.map avByte) = some (.ra 1 2 0 (a.length + b.length), some (halloc (hset (halloc (hset (halloc H00 (.arr 1 [] (t_uint8 N))) 0 none) (.arr 1 (a.map avByte) (t_uint8 N))) 1 none) (.arr 1 (a.map avByte ++ b.map avByte) (t_uint8 N)))) := by
            simp [appendOn, roomMax]
            refine ⟨by omega, ?_⟩
            rw [List.take_of_length_le (by simp)]
          have vc : VBytes (halloc (hset (halloc (hset (halloc H00 (.arr 1 [] (t_uint8 N))) 0 none) (.arr 1 (a.map avByte) (t_uint8 N))) 1 none) (.arr 1 (a.map avByte ++ b.map avByte) (t_uint8 N))) (.ra 1 2 0 (a.length + b.length)) (a ++ b) :=
            .inr ⟨2, 0, t_uint8 N, a.map avByte ++ b.map avByte, by simp, by simp, by simp, by rw [← List.map_append, List.drop_zero, List.take_length]⟩
          have bc := runes_Bad_call hr.toRunesAll hr.bad _ vc (by rw [List.length_append]; omega)
          have cc := runes_Count_call hr.toRunesAll hr.count _ vc (by rw [List.length_append]; omega)
          have hla2 : (allOf a).length ≤ a.length := rsigns_len _ _ _
          have hlb2 : (allOf b).length ≤ b.length := rsigns_len _ _ _
          have hw : IntKind.wrap .i64 (((allOf a).length : Int) + ((allOf b).length : Int)) = ((allOf a).length : Int) + ((allOf b).length : Int) := wrap64 (by omega) (by omega)
          rw [bad_wf hwc] at bc
          rw [e2, Int.natCast_add] at cc
          simp [C_law01_RunesJoin, hlives, hla, hlb, h4a', h4b', ba, wa, bb, wb, ea, eb, hap1, hap2, bc, cc, ca, cb, hw]

theorem law_RunesCuts (hr : Runes Γ A N) (h : Has Γ A (f_law01_RunesCuts N) (C_law01_RunesCuts N)) (at0 : Int) (hlives : (lim Γ A).call (f_law01_lives N) [] (halloc H00 (.cells [avInt .i64 at0] (t_int N))) = some (avBool true, none))
    (x : AV) (b : List UInt8) (hx : IsBytes x b) (hm : b.length ≤ maxLen) : ∃ r, (lim Γ A).ent (f_law01_RunesCuts N) [x, avInt .i64 at0] H00 = some r ∧ r.1 = avBool true := by
  apply h.entP (by rfl)
  have hlen := hx.len
  rw [List.length_map] at hlen
  simp only [maxLen] at hm
  by_cases h400 : 400 < b.length
  · have h400' : (400 : Int) < b.length := by omega
    simp [C_law01_RunesCuts, hlives, hlen, h400']
  · have h400' : ¬ (400 : Int) < b.length := by omega
    have bb := fun H => runes_Bad_call hr.toRunesAll hr.bad H (x := x) (b := b) (IsBytes.v hx) (by omega)
    by_cases wb : 0 ≤ badOf b
    · simp [C_law01_RunesCuts, hlives, hlen, h400', bb, wb]
    · have hwb : wfB b := wf_bad.1 (by omega)
      have hall := fun H => runes_All_call hr.toRunesAll H (IsBytes.v hx)
      -- the place
      have hw1 : IntKind.wrap .i64 ((b.length : Int) + 1) = (b.length : Int) + 1 := wrap64 (by omega) (by omega)
      have hw2 : IntKind.wrap .u64 ((b.length : Int) + 1) = (b.length : Int) + 1 := by rw [wrapu64]; omega
      have hnz : ¬ ((b.length : Int) + 1 = 0) := by omega
      obtain ⟨m, hm1, hm2⟩ : ∃ m : Nat, m ≤ b.length ∧ (IntKind.wrap .u64 at0).tmod ((b.length : Int) + 1) = m := by
        have h0 : 0 ≤ IntKind.wrap .u64 at0 := by rw [wrapu64]; omega
        rw [Int.tmod_eq_emod_of_nonneg h0]
        have h1 := Int.emod_nonneg (IntKind.wrap .u64 at0) hnz
        have h2 := Int.emod_lt_of_pos (IntKind.wrap .u64 at0) (by omega : (0 : Int) < (b.length : Int) + 1)
        exact ⟨(IntKind.wrap .u64 at0 % ((b.length : Int) + 1)).toNat, by omega, by omega⟩
      have hw3 : IntKind.wrap .i64 (m : Int) = m := wrap64 (by omega) (by omega)
      have hL := ((((Loc.start H00).alloc (.cells [avInt .i64 at0] (t_int N))).set (.cells [avInt .i64 (m : Int)] (t_int N))).alloc (.cells [avBool false] (t_bool N))).set (.cells [avBool (decide ((m : Int) = b.length))] (t_bool N))
      simp at hL
      simp [C_law01_RunesCuts, hlives, hlen, h400', bb, wb, hall, hw1, hw2, hm2, hnz, hw3]
      let pl : Nat → Bool := fun i => decide ((m : Int) = b.length) || ((allOf b).take i).any fun p => decide ((p.1 : Int) = m)
      refine wp_rangeFn (H0 := H00) (by simp) (runes_All_gen hr.toRunesAll (x := x) (b := b) (by omega)) rfl hL (by intro x hx; obtain ⟨p, _, rfl⟩ := List.mem_map.1 hx; rfl)
        (fun i os => os = [(1, .cells [avBool (pl i)] (t_bool N)), (0, .cells [avInt .i64 (m : Int)] (t_int N))]) (fun _ _ => False) (fun _ _ _ _ _ _ _ => IsBytes.v hx) (by simp [pl]) ?_ ?_
      · rintro i hi l lo lb H' os' _ hL1 rfl
        simp only [List.length_map] at hi
        simp [L_law01_RunesCuts_1, encS]
        refine ⟨_, hL1, ?_⟩
        intro H1 hL2
        have a5 := hL2.get (p := (1, .cells [avBool (pl i)] (t_bool N))) (by simp)
        have a3 := hL2.get (p := (0, .cells [avInt .i64 (m : Int)] (t_int N))) (by simp)
        simp only [] at a5 a3
        have hnext : pl (i + 1) = (pl i || decide (((allOf b)[i].1 : Int) = m)) := by
          simp only [pl]
          rw [List.take_succ_eq_append_getElem hi, List.any_append]
          simp [Bool.or_assoc]
        cases hp : pl i with
        | true =>
          rw [hp] at a5 hnext
          simp [L_law01_RunesCuts_2, a5, a3]
          rw [hnext]
          rw [hp] at hL2
          exact hL2.setMid (as := [_]) _
        | false =>
          rw [hp] at a5 hnext
          simp [L_law01_RunesCuts_2, a5, a3]
          rw [hnext]
          rw [hp] at hL2
          simpa using hL2.setMid (as := [_]) (.cells [avBool (decide (((allOf b)[i].1 : Int) = m))] (t_bool N))
      · intro x' H2 os2' hL2 hx'
        rcases hx' with ⟨rfl, rfl⟩ | ⟨_, hf⟩
        · have a5 := hL2.head
          have a3 := hL2.get (p := (0, .cells [avInt .i64 (m : Int)] (t_int N))) (by simp)
          simp only [List.length_map] at a5 a3
          have hpl : pl (allOf b).length = true ↔ (m = b.length ∨ ∃ p ∈ allOf b, p.1 = m) := by
            simp only [pl, List.take_length, Bool.or_eq_true, decide_eq_true_eq, List.any_eq_true]
            constructor
            · rintro (h | ⟨p, h1, h2⟩)
              · left; omega
              · right; exact ⟨p, h1, by omega⟩
            · rintro (h | ⟨p, h1, h2⟩)
              · left; omega
              · right; exact ⟨p, h1, by omega⟩
          have hcut := cut_law b.length (m := m) (Nat.le_refl _) hwb hm1
          obtain ⟨y, hy1, hy2⟩ := Fzr.upto hx (k' := .i64) (j := (m : Int)) (by omega) (by simp; omega)
          obtain ⟨z, hz1, hz2⟩ := Fzr.from' hx (k := .i64) (i := (m : Int)) (by omega) (by simp; omega)
          rw [Int.toNat_natCast, ← List.map_take] at hy2
          rw [Int.toNat_natCast, ← List.map_drop] at hz2
          have by' := fun H => runes_Bad_call hr.toRunesAll hr.bad H (x := y) (b := b.take m) (IsBytes.v hy2) (by rw [List.length_take]; omega)
          have bz := fun H => runes_Bad_call hr.toRunesAll hr.bad H (x := z) (b := b.drop m) (IsBytes.v hz2) (by rw [List.length_drop]; omega)
          cases hp : pl (allOf b).length with
          | true =>
            obtain ⟨g1, g2⟩ := hcut.1 (hpl.1 hp)
            rw [hp] at a5
            rw [bad_wf g1] at by'
            rw [bad_wf g2] at bz
            simp [K_law01_RunesCuts_1, a5, a3, hy1, hz1, by', bz]
          | false =>
            obtain ⟨g1, g2⟩ := hcut.2 (fun hc => by rw [hpl.2 hc] at hp; cases hp)
            rw [hp] at a5
            have g3 : 0 ≤ badOf (b.take m) := by
              rcases Int.lt_or_le (badOf (b.take m)) 0 with h | h
              · exact absurd (wf_bad.1 h) g1
              · exact h
            have g4 : badOf (b.drop m) = 0 := by
              have hne : m ≠ b.length := fun hc => by rw [hpl.2 (.inl hc)] at hp; cases hp
              unfold badOf
              rw [stopOf_none g2, List.length_drop, if_neg (by omega)]
              rfl
            simp [K_law01_RunesCuts_1, a5, a3, hy1, hz1, by', bz, g3, g4]
        · exact hf.elim
end
end Go.Proofs.Eng
