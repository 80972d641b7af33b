/- The law RunesEncodes, run by the engine. -/
import Derived.Test.YtombplnoeikhoaaWRunesE
import Derived.Test.YtombplnoeikhoaaLRunes1
set_option linter.unusedVariables false
set_option linter.unusedSimpArgs false
set_option maxRecDepth 100000
namespace Go.Proofs.Eng
open Go
section
variable {Γ : Sums} {A : Tab} {N : Nat → Nat}

theorem law_RunesEncodes (hr : Runes Γ A N) (he : Has Γ A (f_runes_Encode N) (C_runes_Encode N)) (hf : Has Γ A (f_ref01_Encode N) (C_ref01_Encode N)) (h : Has Γ A (f_law01_RunesEncodes N) (C_law01_RunesEncodes N)) (r : Int)
    (hlives : (lim Γ A).call (f_law01_lives N) [] (halloc (halloc H00 (.cells [avInt .i32 r] (t_int32 N))) (.cells [avBool false] (t_bool N))) = some (avBool true, none)) (hw : -2147483648 ≤ r ∧ r ≤ 2147483647) :
    ∃ q, (lim Γ A).ent (f_law01_RunesEncodes N) [avInt .i32 r] H00 = some q ∧ q.1 = avBool true := by
  apply h.entP (by rfl)
  have hw1 : IntKind.wrap .i64 r = r := wrap64 (by omega) (by omega)
  by_cases hv : 0 ≤ r ∧ validN r.toNat = true
  · obtain ⟨n, rfl⟩ : ∃ n : Nat, r = n := ⟨r.toNat, by omega⟩
    have hv2 := hv.2
    simp only [Int.toNat_natCast] at hv2
    have e1 := fun H => runes_Encode_call he hr.sign hr.size (n : Int) H
    have e2 := fun H => ref01_Encode_call hf (n : Int) H
    have hv' : (0 : Int) ≤ (n : Int) ∧ validN n = true := ⟨by omega, hv2⟩
    simp only [Int.toNat_natCast, if_pos hv'] at e1 e2
    obtain ⟨q1, q2⟩ := enc_all hv2
    have hx : IsBytes (.sl 1 ((encB n).map avByte)) (encB n) := .inr rfl
    have hel := enc_len n
    have hall := fun H => runes_All_call hr.toRunesAll H (IsBytes.v hx)
    have hbad := fun H => runes_Bad_call hr.toRunesAll hr.bad H (IsBytes.v hx) (by omega)
    rw [bad_wf q2] at hbad
    have hL := (((((Loc.start H00).alloc (.cells [avInt .i32 (n : Int)] (t_int32 N))).alloc (.cells [avBool false] (t_bool N))).alloc (.cells [avInt .i64 0] (t_int N))).set (.cells [avInt .i64 0] (t_int N)))
    simp at hL
    simp [C_law01_RunesEncodes, hlives, e1, e2, hw1, hall]
    refine wp_rangeFn (H0 := H00) (by simp) (runes_All_gen hr.toRunesAll (x := .sl 1 ((encB n).map avByte)) (b := encB n) (by omega)) rfl hL (by intro x hx; obtain ⟨p, _, rfl⟩ := List.mem_map.1 hx; rfl)
      (fun i os => i ≤ 1 ∧ os = [(2, .cells [avInt .i64 (i : Int)] (t_int N)), (1, .cells [avBool false] (t_bool N)), (0, .cells [avInt .i32 (n : Int)] (t_int32 N))]) (fun _ _ => False) (fun _ _ _ _ _ _ _ => IsBytes.v hx) (by simp) ?_ ?_
    · rintro i hi l lo lb H' os' _ hL1 ⟨hil, rfl⟩
      simp only [List.length_map, q1, List.length_singleton] at hi
      have hi0 : i = 0 := by omega
      subst hi0
      simp [L_law01_RunesEncodes_1, encS, q1]
      refine ⟨_, hL1, ?_⟩
      intro H1 hL2
      have a7 := hL2.get (p := (2, .cells [avInt .i64 0] (t_int N))) (by simp)
      have a1 := hL2.get (p := (0, .cells [avInt .i32 (n : Int)] (t_int32 N))) (by simp)
      simp only [] at a7 a1
      have k1 : IntKind.wrap .i64 (1 : Int) = 1 := by decide
      simp [L_law01_RunesEncodes_2, a7, a1, k1]
      exact hL2.setMid (as := [_]) _
    · intro x' H2 os2' hL2 hx'
      rcases hx' with ⟨rfl, _, rfl⟩ | ⟨_, hf⟩
      · have a7 := hL2.head
        have a2 := hL2.get (p := (1, .cells [avBool false] (t_bool N))) (by simp)
        simp only [List.length_map, q1, List.length_singleton] at a7 a2
        have a0 := hget_lt a2
        simp [K_law01_RunesEncodes_1, a7, a2, a0, hbad]
      · exact hf.elim
  · have e1 := fun H => runes_Encode_call he hr.sign hr.size r H
    have e2 := fun H => ref01_Encode_call hf r H
    simp only [if_neg hv] at e1 e2
    simp [C_law01_RunesEncodes, hlives, e1, e2, hw1]
end
end Go.Proofs.Eng
