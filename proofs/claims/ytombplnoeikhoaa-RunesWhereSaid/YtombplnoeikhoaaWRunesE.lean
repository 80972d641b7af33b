/- runes.Encode, run by the engine. -/
import Derived.Test.YtombplnoeikhoaaWRunesP
set_option linter.unusedVariables false
set_option linter.unusedSimpArgs false
set_option maxRecDepth 100000
namespace Go.Proofs.Eng
open Go
section
variable {Γ : Sums} {A : Tab} {N : Nat → Nat}

theorem and63 {r : Nat} (h : r < 2 ^ 21) : bAnd .i32 (r : Int) 63 = ((r % 64 : Nat) : Int) := by
  unfold bAnd
  have h1 : (BitVec.ofInt 32 (r : Int) &&& BitVec.ofInt 32 63).toNat = r % 64 := by
    rw [BitVec.toNat_and]
    have e1 : (BitVec.ofInt 32 (r : Int)).toNat = r := by rw [BitVec.toNat_ofInt]; omega
    have e2 : (BitVec.ofInt 32 (63 : Int)).toNat = 63 := by decide
    rw [e1, e2]
    exact Nat.and_two_pow_sub_one_eq_mod r 6
  show IntKind.wrap .i32 ((BitVec.ofInt 32 (r : Int) &&& BitVec.ofInt 32 63).toNat : Int) = _
  rw [h1, wrap32 (by omega) (by omega)]
theorem shr6 {r : Nat} : bShr .i32 (r : Int) 6 = ((r / 64 : Nat) : Int) := by
  show Int.fdiv (r : Int) (2 ^ 6) = _
  rw [Int.fdiv_eq_ediv_of_nonneg _ (by omega)]
  omega
theorem or128 {x : Nat} (h : x < 64) : bOr .u8 128 (x : Int) = ((128 + x : Nat) : Int) := by
  have : (List.range 64).all (fun x => decide (bOr .u8 128 (x : Int) = ((128 + x : Nat) : Int))) = true := by decide +kernel
  rw [List.all_eq_true] at this
  simpa only [decide_eq_true_eq] using this x (by simpa using h)
theorem or192 {x : Nat} (h : x < 32) : bOr .u8 192 (x : Int) = ((192 + x : Nat) : Int) := by
  have : (List.range 32).all (fun x => decide (bOr .u8 (192 : Int) (x : Int) = ((192 + x : Nat) : Int))) = true := by decide +kernel
  rw [List.all_eq_true] at this
  simpa only [decide_eq_true_eq] using this x (by simpa using h)
theorem or224 {x : Nat} (h : x < 16) : bOr .u8 224 (x : Int) = ((224 + x : Nat) : Int) := by
  have : (List.range 16).all (fun x => decide (bOr .u8 (224 : Int) (x : Int) = ((224 + x : Nat) : Int))) = true := by decide +kernel
  rw [List.all_eq_true] at this
  simpa only [decide_eq_true_eq] using this x (by simpa using h)
theorem or240 {x : Nat} (h : x < 8) : bOr .u8 240 (x : Int) = ((240 + x : Nat) : Int) := by
  have : (List.range 8).all (fun x => decide (bOr .u8 (240 : Int) (x : Int) = ((240 + x : Nat) : Int))) = true := by decide +kernel
  rw [List.all_eq_true] at this
  simpa only [decide_eq_true_eq] using this x (by simpa using h)
theorem w8n {x : Nat} (h : x < 256) : IntKind.wrap .u8 (x : Int) = (x : Int) := by rw [wrap8]; omega

theorem aiaddr_ra {sz id off n : Nat} {k : IntKind} {i : Int} (h0 : 0 ≤ i) (h : i.toNat < n) : aiaddr sz (.ra sz id off n) (.lit (.int k i)) = some (.ep id (off + i.toNat) 0) := by simp [aiaddr, h0, h]
theorem astore_ep {H : Hp} {id i : Nat} {es : List AV} {t : TypeId} {x : AV} {n : Nat} (hx : x.good = true) (hc : x.cells.length = n) (h : hget H id = some (.arr n es t)) (hi : i < es.length) : astore H n (.ep id i 0) x = some (hset H id (some (.arr n (es.set i x) t))) := by
  simp [astore, hx, hc, h, List.getElem?_eq_getElem hi]

theorem settleZ_row' {H H1 : Hp} {es : List AV} {t : TypeId} {b : Value} {id m : Nat} (hk : keeps H H1 = true) (h1 : H.l.length ≤ id ∧ hget H1 id = some (.arr 1 es t)) (hm : m = es.length) (hl : ∀ x ∈ es, ∃ v, x = .lit v) :
    settleZ true H (.tup [.ra 1 id 0 m, .lit b]) H1 = (.tup [.sl 1 es, .lit b], none) := by
  subst hm
  apply settleZ_frz hk
  rw [frz_tup, mapM_cons', frz_ra (es := es) (t := t) h1.2 h1.1 (by simp), List.drop_zero, List.take_length, frz_lits hl]
  rfl
theorem runeSign_valid (r : Int) : runeSign r = (decide (0 ≤ r) && validN r.toNat) := by
  rw [Bool.eq_iff_iff]
  simp [runeSign, validN]
  omega

theorem runes_Encode_call (h : Has Γ A (f_runes_Encode N) (C_runes_Encode N)) (hs : Has Γ A (f_runes_sign N) (C_runes_sign N)) (hz : Has Γ A (f_runes_size N) (C_runes_size N)) (r : Int) (H : Hp) : (lim Γ A).call (f_runes_Encode N) [avInt .i32 r] H =
    some (if 0 ≤ r ∧ validN r.toNat = true then .tup [.sl 1 ((encB r.toNat).map avByte), avInt .i64 0] else .tup [avNilS, avInt .i64 2], none) := by
  apply h.call (by rfl)
  have hsg := fun H => runes_sign_call hs r H
  by_cases hv : 0 ≤ r ∧ validN r.toNat = true
  · obtain ⟨n, rfl⟩ : ∃ n : Nat, r = n := ⟨r.toNat, by omega⟩
    have hv1 : runeSign (n : Int) = true := by rw [runeSign_valid, Bool.and_eq_true]; exact ⟨by simp, hv.2⟩
    have hv2 := hv.2
    simp only [Int.toNat_natCast] at hv2
    have hv3 : n < 2 ^ 21 := by simp [validN] at hv2; omega
    have hsz := fun H => runes_size_call hz (n : Int) H
    by_cases h1 : n < 128
    · have g : runeSize (n : Int) = 1 := by unfold runeSize; rw [if_pos (by omega)]
      simp [C_runes_Encode, hsg, hsz, hv1, g, hv2, wrap8]
      refine (settleZ_row (es := [avInt .u8 ((n : Int) % 256)]) (t := t_uint8 N) rfl rfl (by simp)).trans ?_
      simp [encB, encN, h1, avByte]
    · by_cases h2 : n < 2048
      · have g : runeSize (n : Int) = 2 := by unfold runeSize; rw [if_neg (by omega), if_pos (by omega)]
        have k0 : IntKind.wrap .i64 (0 : Int) = 0 := by decide
        have k1 : IntKind.wrap .i64 (1 : Int) = 1 := by decide
        have k3 : IntKind.wrap .u8 (bShr .i64 3840 2) = 192 := by decide
        have a1 := and63 hv3
        have a2 := w8n (x := n % 64) (by omega)
        have a3 := or128 (x := n % 64) (by omega)
        have a4 := shr6 (r := n)
        have a5 := w8n (x := n / 64) (by omega)
        have a6 := or192 (x := n / 64) (by omega)
        simp [C_runes_Encode, hsg, hsz, hv1, g, hv2, roomMax, k1]
        apply wp_unroll; rfl
        simp [L_runes_Encode_1, k0, a1, a2, a3, a4, aiaddr, astore, List.replicate, -Int.natCast_emod, -Int.natCast_ediv, -Int.natCast_add]
        apply wp_unroll; rfl
        simp [L_runes_Encode_1, K_runes_Encode_1, k3, a5, a6, aiaddr, astore, List.replicate, -Int.natCast_emod, -Int.natCast_ediv, -Int.natCast_add]
        refine (settleZ_row' (es := [avInt .u8 ((192 + n / 64 : Nat) : Int), avInt .u8 ((128 + n % 64 : Nat) : Int)]) (t := t_uint8 N) ?_ ?_ rfl (by simp)).trans ?_
        · simp [keeps]
        · simp
        · simp [encB, encN, h1, h2, avByte]; omega
      · by_cases h3 : n < 65536
        · have g : runeSize (n : Int) = 3 := by unfold runeSize; rw [if_neg (by omega), if_neg (by omega), if_pos (by omega)]
          have k0 : IntKind.wrap .i64 (0 : Int) = 0 := by decide
          have k1 : IntKind.wrap .i64 (1 : Int) = 1 := by decide
          have k2 : IntKind.wrap .i64 (2 : Int) = 2 := by decide
          have k3 : IntKind.wrap .u8 (bShr .i64 3840 3) = 224 := by decide
          have a1 := and63 hv3
          have a2 := w8n (x := n % 64) (by omega)
          have a3 := or128 (x := n % 64) (by omega)
          have a4 := shr6 (r := n)
          have b1 := and63 (r := n / 64) (by omega)
          have b2 := w8n (x := n / 64 % 64) (by omega)
          have b3 := or128 (x := n / 64 % 64) (by omega)
          have b4 := shr6 (r := n / 64)
          have a5 := w8n (x := n / 64 / 64) (by omega)
          have a6 := or224 (x := n / 64 / 64) (by omega)
          simp [C_runes_Encode, hsg, hsz, hv1, g, hv2, roomMax, k2]
          apply wp_unroll; rfl
          simp [L_runes_Encode_1, k1, a1, a2, a3, a4, aiaddr, astore, List.replicate, -Int.natCast_emod, -Int.natCast_ediv, -Int.natCast_add]
          apply wp_unroll; rfl
          simp [L_runes_Encode_1, k0, b1, b2, b3, b4, aiaddr, astore, List.replicate, -Int.natCast_emod, -Int.natCast_ediv, -Int.natCast_add]
          apply wp_unroll; rfl
          simp [L_runes_Encode_1, K_runes_Encode_1, k3, a5, a6, aiaddr, astore, List.replicate, -Int.natCast_emod, -Int.natCast_ediv, -Int.natCast_add]
          refine (settleZ_row' (es := [avInt .u8 ((224 + n / 64 / 64 : Nat) : Int), avInt .u8 ((128 + n / 64 % 64 : Nat) : Int), avInt .u8 ((128 + n % 64 : Nat) : Int)]) (t := t_uint8 N) ?_ ?_ rfl (by simp)).trans ?_
          · simp [keeps]
          · simp
          · simp [encB, encN, h1, h2, h3, avByte]; omega
        · have hv4 : n ≤ 1114111 := by simp [validN] at hv2; omega
          have g : runeSize (n : Int) = 4 := by unfold runeSize; rw [if_neg (by omega), if_neg (by omega), if_neg (by omega)]
          have k0 : IntKind.wrap .i64 (0 : Int) = 0 := by decide
          have k1 : IntKind.wrap .i64 (1 : Int) = 1 := by decide
          have k2 : IntKind.wrap .i64 (2 : Int) = 2 := by decide
          have k4 : IntKind.wrap .i64 (3 : Int) = 3 := by decide
          have k3 : IntKind.wrap .u8 (bShr .i64 3840 4) = 240 := by decide
          have a1 := and63 hv3
          have a2 := w8n (x := n % 64) (by omega)
          have a3 := or128 (x := n % 64) (by omega)
          have a4 := shr6 (r := n)
          have b1 := and63 (r := n / 64) (by omega)
          have b2 := w8n (x := n / 64 % 64) (by omega)
          have b3 := or128 (x := n / 64 % 64) (by omega)
          have b4 := shr6 (r := n / 64)
          have c1 := and63 (r := n / 64 / 64) (by omega)
          have c2 := w8n (x := n / 64 / 64 % 64) (by omega)
          have c3 := or128 (x := n / 64 / 64 % 64) (by omega)
          have c4 := shr6 (r := n / 64 / 64)
          have a5 := w8n (x := n / 64 / 64 / 64) (by omega)
          have a6 := or240 (x := n / 64 / 64 / 64) (by omega)
          simp [C_runes_Encode, hsg, hsz, hv1, g, hv2, roomMax, k4]
          apply wp_unroll; rfl
          simp [L_runes_Encode_1, k2, a1, a2, a3, a4, aiaddr, astore, List.replicate, -Int.natCast_emod, -Int.natCast_ediv, -Int.natCast_add]
          apply wp_unroll; rfl
          simp [L_runes_Encode_1, k1, b1, b2, b3, b4, aiaddr, astore, List.replicate, -Int.natCast_emod, -Int.natCast_ediv, -Int.natCast_add]
          apply wp_unroll; rfl
          simp [L_runes_Encode_1, k0, c1, c2, c3, c4, aiaddr, astore, List.replicate, -Int.natCast_emod, -Int.natCast_ediv, -Int.natCast_add]
          apply wp_unroll; rfl
          simp [L_runes_Encode_1, K_runes_Encode_1, k3, a5, a6, aiaddr, astore, List.replicate, -Int.natCast_emod, -Int.natCast_ediv, -Int.natCast_add]
          refine (settleZ_row' (es := [avInt .u8 ((240 + n / 64 / 64 / 64 : Nat) : Int), avInt .u8 ((128 + n / 64 / 64 % 64 : Nat) : Int), avInt .u8 ((128 + n / 64 % 64 : Nat) : Int), avInt .u8 ((128 + n % 64 : Nat) : Int)]) (t := t_uint8 N) ?_ ?_ rfl (by simp)).trans ?_
          · simp [keeps]
          · simp
          · simp [encB, encN, h1, h2, h3, avByte]; omega
  · have hv1 : runeSign r = false := by
      rw [runeSign_valid, Bool.and_eq_false_iff]
      rcases Int.lt_or_le r 0 with h0 | h0
      · left; simpa using h0
      · right; simpa using fun hc => hv ⟨h0, hc⟩
    simp [C_runes_Encode, hsg, hv1, hv]
    rw [settleZ_frz (u := .tup [avNilS, avInt .i64 2]) rfl rfl]
end
end Go.Proofs.Eng
