/- The functions of the reference of chapter 1, run by the engine. -/
import Derived.Test.YtombplnoeikhoaaWRunes
set_option linter.unusedVariables false
set_option linter.unusedSimpArgs false
set_option maxRecDepth 100000
namespace Go.Proofs.Eng
open Go

/-! ### Plain laws of signs -/
def valN : List UInt8 → Nat
  | [a] => a.toNat
  | [a, b] => a.toNat % 32 * 64 + b.toNat % 64
  | [a, b, c] => a.toNat % 16 * 4096 + b.toNat % 64 * 64 + c.toNat % 64
  | [a, b, c, d] => a.toNat % 8 * 262144 + b.toNat % 64 * 4096 + c.toNat % 64 * 64 + d.toNat % 64
  | _ => 0
def validN (r : Nat) : Bool := decide (r ≤ 1114111) && !(decide (55296 ≤ r) && decide (r ≤ 57343))
def encN (r : Nat) : List Nat :=
  if r < 128 then [r] else if r < 2048 then [192 + r / 64, 128 + r % 64] else if r < 65536 then [224 + r / 4096, 128 + r / 64 % 64, 128 + r % 64]
  else [240 + r / 262144, 128 + r / 4096 % 64, 128 + r / 64 % 64, 128 + r % 64]
def encB (r : Nat) : List UInt8 := (encN r).map UInt8.ofNat

theorem u8_eq {n : Nat} {b : UInt8} (h : n < 256) : UInt8.ofNat n = b ↔ n = b.toNat := by
  constructor
  · rintro rfl; simp; omega
  · rintro rfl; simp

theorem ofNat_eq {n : Nat} {b : UInt8} : UInt8.ofNat n = b ↔ n % 256 = b.toNat := by
  constructor
  · rintro rfl; simp
  · intro h
    apply UInt8.toNat_inj.1
    simpa using h

theorem enc1 (a : UInt8) : (validN (valN [a]) = true ∧ encB (valN [a]) = [a]) ↔ a.toNat < 128 := by
  have ha := a.toNat_lt
  simp only [valN]
  constructor
  · rintro ⟨_, h⟩
    unfold encB encN at h
    split at h
    · assumption
    · split at h
      · simp at h
      · omega
  · intro h
    refine ⟨by simp [validN]; omega, ?_⟩
    unfold encB encN
    rw [if_pos h]
    simp
theorem enc2 (a c : UInt8) : (validN (valN [a, c]) = true ∧ encB (valN [a, c]) = [a, c]) ↔ (194 ≤ a.toNat ∧ a.toNat < 224 ∧ 128 ≤ c.toNat ∧ c.toNat < 192) := by
  have ha := a.toNat_lt
  have hc := c.toNat_lt
  simp only [valN]
  constructor
  · rintro ⟨_, h⟩
    unfold encB encN at h
    split at h
    · simp at h
    · split at h
      · simp only [List.map_cons, List.map_nil, List.cons.injEq, and_true, ofNat_eq] at h
        omega
      · split at h <;> simp at h
  · intro h
    refine ⟨by simp [validN]; omega, ?_⟩
    unfold encB encN
    rw [if_neg (by omega), if_pos (by omega)]
    simp only [List.map_cons, List.map_nil, List.cons.injEq, and_true, ofNat_eq]
    omega
theorem enc3 (a c d : UInt8) : (validN (valN [a, c, d]) = true ∧ encB (valN [a, c, d]) = [a, c, d]) ↔ (224 ≤ a.toNat ∧ a.toNat < 240 ∧ 128 ≤ c.toNat ∧ c.toNat < 192 ∧ 128 ≤ d.toNat ∧ d.toNat < 192 ∧ 2048 ≤ valN [a, c, d] ∧ (valN [a, c, d] < 55296 ∨ 57343 < valN [a, c, d])) := by
  have ha := a.toNat_lt
  have hc := c.toNat_lt
  have hd := d.toNat_lt
  simp only [valN]
  constructor
  · rintro ⟨hv, h⟩
    unfold encB encN at h
    split at h
    · simp at h
    · split at h
      · simp at h
      · split at h
        · simp only [List.map_cons, List.map_nil, List.cons.injEq, and_true, ofNat_eq] at h
          simp [validN] at hv
          omega
        · simp at h
  · intro h
    refine ⟨by simp [validN]; omega, ?_⟩
    unfold encB encN
    rw [if_neg (by omega), if_neg (by omega), if_pos (by omega)]
    simp only [List.map_cons, List.map_nil, List.cons.injEq, and_true, ofNat_eq]
    omega
theorem enc4 (a c d e : UInt8) : (validN (valN [a, c, d, e]) = true ∧ encB (valN [a, c, d, e]) = [a, c, d, e]) ↔ (240 ≤ a.toNat ∧ a.toNat < 248 ∧ 128 ≤ c.toNat ∧ c.toNat < 192 ∧ 128 ≤ d.toNat ∧ d.toNat < 192 ∧ 128 ≤ e.toNat ∧ e.toNat < 192 ∧ 65536 ≤ valN [a, c, d, e] ∧ valN [a, c, d, e] ≤ 1114111) := by
  have ha := a.toNat_lt
  have hc := c.toNat_lt
  have hd := d.toNat_lt
  have he := e.toNat_lt
  simp only [valN]
  constructor
  · rintro ⟨hv, h⟩
    unfold encB encN at h
    split at h
    · simp at h
    · split at h
      · simp at h
      · split at h
        · simp at h
        · simp only [List.map_cons, List.map_nil, List.cons.injEq, and_true, ofNat_eq] at h
          simp [validN] at hv
          omega
  · intro h
    refine ⟨by simp [validN]; omega, ?_⟩
    unfold encB encN
    rw [if_neg (by omega), if_neg (by omega), if_neg (by omega)]
    simp only [List.map_cons, List.map_nil, List.cons.injEq, and_true, ofNat_eq]
    omega

theorem lead_cases (a : UInt8) : (a.toNat < 128 ∧ lead a = 0) ∨ (128 ≤ a.toNat ∧ a.toNat < 192 ∧ lead a = 1) ∨ (192 ≤ a.toNat ∧ a.toNat < 224 ∧ lead a = 2) ∨ (224 ≤ a.toNat ∧ a.toNat < 240 ∧ lead a = 3) ∨ (240 ≤ a.toNat ∧ lead a = 4) := by
  unfold lead
  (repeat' split) <;> omega

theorem rfirst_snd (a : UInt8) (l : List UInt8) : (rfirst (a :: l)).2 = 0 ∨ ((rfirst (a :: l)).2 = 1 ∧ lead a = 0) ∨ ((rfirst (a :: l)).2 = lead a ∧ 2 ≤ lead a) := by
  simp only [rfirst]
  rcases lead_cases a with ⟨h, h'⟩ | ⟨h, _, h'⟩ | ⟨h, _, h'⟩ | ⟨h, _, h'⟩ | ⟨h, h'⟩
  · rw [if_pos h]; exact .inr (.inl ⟨rfl, h'⟩)
  · rw [if_neg (by omega), if_pos (by omega)]; exact .inl rfl
  all_goals
    rw [if_neg (by omega)]
    split
    · exact .inl rfl
    · split
      · split
        · exact .inr (.inr ⟨rfl, by omega⟩)
        · exact .inl rfl
      · exact .inl rfl

theorem enc_iff (b : List UInt8) (n : Nat) (h1 : 1 ≤ n) (h4 : n ≤ 4) (hl : n ≤ b.length) : (validN (valN (b.take n)) = true ∧ encB (valN (b.take n)) = b.take n) ↔ rfirst b = ((valN (b.take n) : Int), (n : Int)) := by
  have bad : ∀ (a : UInt8) (l : List UInt8) (m : Nat), 1 ≤ m → (m = 1 → lead a ≠ 0) → (2 ≤ m → lead a ≠ m) → ∀ x : Int, rfirst (a :: l) ≠ (x, (m : Int)) := by
    intro a l m hm h0 h2 x e
    have := rfirst_snd a l
    rw [e] at this
    simp only [] at this
    omega
  match n, b, hl with
  | 1, a :: l, _ =>
    simp only [List.take_succ_cons, List.take_zero]
    rw [enc1]
    constructor
    · intro h; simp [rfirst, h, valN]
    · intro h
      rcases lead_cases a with ⟨h2, _⟩ | ⟨_, _, h2⟩ | ⟨_, _, h2⟩ | ⟨_, _, h2⟩ | ⟨_, h2⟩
      · exact h2
      all_goals exact absurd h (bad a l 1 (by omega) (by omega) (by omega) _)
  | 2, a :: c :: l, _ =>
    simp only [List.take_succ_cons, List.take_zero]
    rw [enc2]
    have ha := a.toNat_lt
    rcases lead_cases a with ⟨h2, h3⟩ | ⟨h2, h2', h3⟩ | ⟨h2, h2', h3⟩ | ⟨h2, h2', h3⟩ | ⟨h2, h3⟩
    · exact ⟨fun h => by omega, fun h => absurd h (bad a _ 2 (by omega) (by omega) (by omega) _)⟩
    · exact ⟨fun h => by omega, fun h => absurd h (bad a _ 2 (by omega) (by omega) (by omega) _)⟩
    · simp only [rfirst, h3, headR, accB, runeSign, runeSize, isCont, valN, List.take_succ_cons, List.take_zero, List.all_cons, List.all_nil, List.length_cons]
      rw [if_neg (by omega), if_neg (by omega)]
      simp only [Bool.and_true, Bool.and_eq_true, Bool.or_eq_true, decide_eq_true_eq]
      by_cases hc : 128 ≤ c.toNat ∧ c.toNat < 192
      · rw [if_pos hc]
        by_cases hv : 194 ≤ a.toNat
        · rw [if_pos (by refine ⟨?_, ?_⟩ <;> (try (repeat' split)) <;> omega)]
          simp; omega
        · rw [if_neg (by rintro ⟨_, h⟩; (repeat' split at h) <;> omega)]
          simp; omega
      · rw [if_neg hc]
        simp; omega
    · exact ⟨fun h => by omega, fun h => absurd h (bad a _ 2 (by omega) (by omega) (by omega) _)⟩
    · exact ⟨fun h => by omega, fun h => absurd h (bad a _ 2 (by omega) (by omega) (by omega) _)⟩
  | 3, a :: c :: d :: l, _ =>
    simp only [List.take_succ_cons, List.take_zero]
    rw [enc3]
    have ha := a.toNat_lt
    rcases lead_cases a with ⟨h2, h3⟩ | ⟨h2, h2', h3⟩ | ⟨h2, h2', h3⟩ | ⟨h2, h2', h3⟩ | ⟨h2, h3⟩
    · exact ⟨fun h => by omega, fun h => absurd h (bad a _ 3 (by omega) (by omega) (by omega) _)⟩
    · exact ⟨fun h => by omega, fun h => absurd h (bad a _ 3 (by omega) (by omega) (by omega) _)⟩
    · exact ⟨fun h => by omega, fun h => absurd h (bad a _ 3 (by omega) (by omega) (by omega) _)⟩
    · simp only [rfirst, h3, headR, accB, runeSign, runeSize, isCont, valN, List.take_succ_cons, List.take_zero, List.all_cons, List.all_nil, List.length_cons]
      rw [if_neg (by omega), if_neg (by omega)]
      simp only [Bool.and_true, Bool.and_eq_true, Bool.or_eq_true, decide_eq_true_eq]
      by_cases hc : (128 ≤ c.toNat ∧ c.toNat < 192) ∧ 128 ≤ d.toNat ∧ d.toNat < 192
      · rw [if_pos hc]
        by_cases hv : 2048 ≤ a.toNat % 16 * 4096 + c.toNat % 64 * 64 + d.toNat % 64 ∧ (a.toNat % 16 * 4096 + c.toNat % 64 * 64 + d.toNat % 64 < 55296 ∨ 57343 < a.toNat % 16 * 4096 + c.toNat % 64 * 64 + d.toNat % 64)
        · rw [if_pos (by refine ⟨?_, ?_⟩ <;> (try (repeat' split)) <;> omega)]
          simp; omega
        · rw [if_neg (by rintro ⟨_, h⟩; (repeat' split at h) <;> omega)]
          simp; omega
      · rw [if_neg hc]
        simp; omega
    · exact ⟨fun h => by omega, fun h => absurd h (bad a _ 3 (by omega) (by omega) (by omega) _)⟩
  | 4, a :: c :: d :: e :: l, _ =>
    simp only [List.take_succ_cons, List.take_zero]
    rw [enc4]
    have ha := a.toNat_lt
    rcases lead_cases a with ⟨h2, h3⟩ | ⟨h2, h2', h3⟩ | ⟨h2, h2', h3⟩ | ⟨h2, h2', h3⟩ | ⟨h2, h3⟩
    · exact ⟨fun h => by omega, fun h => absurd h (bad a _ 4 (by omega) (by omega) (by omega) _)⟩
    · exact ⟨fun h => by omega, fun h => absurd h (bad a _ 4 (by omega) (by omega) (by omega) _)⟩
    · exact ⟨fun h => by omega, fun h => absurd h (bad a _ 4 (by omega) (by omega) (by omega) _)⟩
    · exact ⟨fun h => by omega, fun h => absurd h (bad a _ 4 (by omega) (by omega) (by omega) _)⟩
    · by_cases h248 : 248 ≤ a.toNat
      · simp only [rfirst]
        rw [if_neg (by omega), if_pos (by omega)]
        simp; omega
      · simp only [rfirst, h3, headR, accB, runeSign, runeSize, isCont, valN, List.take_succ_cons, List.take_zero, List.all_cons, List.all_nil, List.length_cons]
        rw [if_neg (by omega), if_neg (by omega)]
        simp only [Bool.and_true, Bool.and_eq_true, Bool.or_eq_true, decide_eq_true_eq]
        by_cases hc : (128 ≤ c.toNat ∧ c.toNat < 192) ∧ (128 ≤ d.toNat ∧ d.toNat < 192) ∧ 128 ≤ e.toNat ∧ e.toNat < 192
        · rw [if_pos hc]
          by_cases hv : 65536 ≤ a.toNat % 8 * 262144 + c.toNat % 64 * 4096 + d.toNat % 64 * 64 + e.toNat % 64 ∧ a.toNat % 8 * 262144 + c.toNat % 64 * 4096 + d.toNat % 64 * 64 + e.toNat % 64 ≤ 1114111
          · rw [if_pos (by refine ⟨?_, ?_⟩ <;> (try (repeat' split)) <;> omega)]
            simp; omega
          · rw [if_neg (by rintro ⟨hs, h⟩; (repeat' split at h) <;> omega)]
            simp; omega
        · rw [if_neg hc]
          simp; omega

/-! ### The walks -/
section
variable {Γ : Sums} {A : Tab} {N : Nat → Nat}

theorem ref01_value_call (h : Has Γ A (f_ref01_value N) (C_ref01_value N)) (x : AV) (l : List UInt8) (H : Hp) (hx : VBytes H x l) (h1 : 1 ≤ l.length) (h4 : l.length ≤ 4) : (lim Γ A).call (f_ref01_value N) [x] H = some (avInt .i64 (valN l), none) := by
  apply h.call (by rfl)
  replace hx : VBytes { l := H.l, d := none } x l := Vw.dd hx none
  have hlen := hx.len
  match l, h1, h4 with
  | [a], _, _ =>
    obtain ⟨p0, a0, b0⟩ := VBytes.at' hx (k := .i64) (i := 0) (by omega) (by simp)
    have ha := a.toNat_lt
    simp at a0 b0 hlen
    simp (disch := omega) [C_ref01_value, hlen, a0, b0, avByte, wrap64, valN]
  | [a, b], _, _ =>
    obtain ⟨p0, a0, b0⟩ := VBytes.at' hx (k := .i64) (i := 0) (by omega) (by simp)
    obtain ⟨p1, a1, b1⟩ := VBytes.at' hx (k := .i64) (i := 1) (by omega) (by simp)
    have ha := a.toNat_lt
    have hb := b.toNat_lt
    simp at a0 b0 a1 b1 hlen
    simp (disch := omega) [C_ref01_value, hlen, a0, b0, a1, b1, avByte, wrap64, valN, Int.tmod_eq_emod_of_nonneg]
  | [a, b, c], _, _ =>
    obtain ⟨p0, a0, b0⟩ := VBytes.at' hx (k := .i64) (i := 0) (by omega) (by simp)
    obtain ⟨p1, a1, b1⟩ := VBytes.at' hx (k := .i64) (i := 1) (by omega) (by simp)
    obtain ⟨p2, a2, b2⟩ := VBytes.at' hx (k := .i64) (i := 2) (by omega) (by simp)
    have ha := a.toNat_lt
    have hb := b.toNat_lt
    have hc := c.toNat_lt
    simp at a0 b0 a1 b1 a2 b2 hlen
    simp (disch := omega) [C_ref01_value, hlen, a0, b0, a1, b1, a2, b2, avByte, wrap64, valN, Int.tmod_eq_emod_of_nonneg]
  | [a, b, c, d], _, _ =>
    obtain ⟨p0, a0, b0⟩ := VBytes.at' hx (k := .i64) (i := 0) (by omega) (by simp)
    obtain ⟨p1, a1, b1⟩ := VBytes.at' hx (k := .i64) (i := 1) (by omega) (by simp)
    obtain ⟨p2, a2, b2⟩ := VBytes.at' hx (k := .i64) (i := 2) (by omega) (by simp)
    obtain ⟨p3, a3, b3⟩ := VBytes.at' hx (k := .i64) (i := 3) (by omega) (by simp)
    have ha := a.toNat_lt
    have hb := b.toNat_lt
    have hc := c.toNat_lt
    have hd := d.toNat_lt
    simp at a0 b0 a1 b1 a2 b2 a3 b3 hlen
    simp (disch := omega) [C_ref01_value, hlen, a0, b0, a1, b1, a2, b2, a3, b3, avByte, wrap64, valN, Int.tmod_eq_emod_of_nonneg]

theorem ref01_Encode_call (h : Has Γ A (f_ref01_Encode N) (C_ref01_Encode N)) (r : Int) (H : Hp) : (lim Γ A).call (f_ref01_Encode N) [avInt .i64 r] H =
    some (if 0 ≤ r ∧ validN r.toNat = true then .tup [.sl 1 ((encB r.toNat).map avByte), avBool true] else .tup [avNilS, avBool false], none) := by
  apply h.call (by rfl)
  by_cases h0 : r < 0
  · have : ¬ (0 ≤ r) := by omega
    simp [C_ref01_Encode, h0, this]
    rw [settleZ_frz (u := .tup [avNilS, avBool false]) rfl rfl]
  · obtain ⟨n, rfl⟩ : ∃ n : Nat, r = n := ⟨r.toNat, by omega⟩
    have h0' : ¬ ((n : Int) < 0) := by omega
    by_cases h1 : 1114111 < (n : Int)
    · have hv : validN n = false := by simp [validN]; omega
      simp [C_ref01_Encode, h0', h1, hv]
      rw [settleZ_frz (u := .tup [avNilS, avBool false]) rfl rfl]
    · by_cases h2 : 55296 ≤ (n : Int) ∧ (n : Int) ≤ 57343
      · have hv : validN n = false := by simp [validN]; omega
        simp [C_ref01_Encode, h0', h1, h2.1, h2.2, hv]
        rw [settleZ_frz (u := .tup [avNilS, avBool false]) rfl rfl]
      · have hv : validN n = true := by simp [validN]; omega
        have hn0 : (0 : Int) ≤ n := by omega
        by_cases h5 : n < 128
        · have g1 : (n : Int) < 128 := by omega
          have g2 : ¬ 55296 ≤ (n : Int) := by omega
          simp (disch := omega) [C_ref01_Encode, h0', h1, g1, g2, hv, wrap8, true_and]
          refine (settleZ_row (es := [avInt .u8 ((n : Int) % 256)]) (t := t_uint8 N) rfl rfl (by simp)).trans ?_
          simp [encB, encN, h5, avByte]
        · by_cases h6 : n < 2048
          · have g1 : ¬ (n : Int) < 128 := by omega
            have g3 : (n : Int) < 2048 := by omega
            have g2 : ¬ 55296 ≤ (n : Int) := by omega
            simp (disch := omega) [C_ref01_Encode, h0', h1, g1, g2, g3, hv, wrap8, wrap64, true_and, Int.tmod_eq_emod_of_nonneg, Int.tdiv_eq_ediv_of_nonneg]
            refine (settleZ_row (es := [avInt .u8 ((192 + (n : Int) / 64) % 256), avInt .u8 ((128 + (n : Int) % 64) % 256)]) (t := t_uint8 N) rfl rfl (by simp)).trans ?_
            simp [encB, encN, h5, h6, avByte]
          · have g1 : ¬ (n : Int) < 128 := by omega
            have g3 : ¬ (n : Int) < 2048 := by omega
            by_cases h7 : n < 65536
            · have g4 : (n : Int) < 65536 := by omega
              have fin : ∀ H', H' = halloc { l := H.l, d := none } (.arr 1 [avInt .u8 ((224 + (n : Int) / 4096) % 256), avInt .u8 ((128 + (n : Int) / 64 % 64) % 256), avInt .u8 ((128 + (n : Int) % 64) % 256)] (t_uint8 N)) →
                  settleZ true H (.tup [.ra 1 H.l.length 0 3, avBool true]) H' = (.tup [.sl 1 ((encB n).map avByte), avBool true], none) := by
                rintro H' rfl
                refine (settleZ_row (es := [avInt .u8 ((224 + (n : Int) / 4096) % 256), avInt .u8 ((128 + (n : Int) / 64 % 64) % 256), avInt .u8 ((128 + (n : Int) % 64) % 256)]) (t := t_uint8 N) rfl rfl (by simp)).trans ?_
                simp [encB, encN, h5, h6, h7, avByte]
              by_cases h3 : 55296 ≤ (n : Int)
              · have h4 : ¬ (n : Int) ≤ 57343 := by omega
                simp (disch := omega) [C_ref01_Encode, h0', h1, g1, h3, h4, g3, g4, hv, wrap8, wrap64, true_and, Int.tmod_eq_emod_of_nonneg, Int.tdiv_eq_ediv_of_nonneg]
                exact fin _ rfl
              · simp (disch := omega) [C_ref01_Encode, h0', h1, g1, h3, g3, g4, hv, wrap8, wrap64, true_and, Int.tmod_eq_emod_of_nonneg, Int.tdiv_eq_ediv_of_nonneg]
                exact fin _ rfl
            · have g4 : ¬ (n : Int) < 65536 := by omega
              have h3 : 55296 ≤ (n : Int) := by omega
              have h4 : ¬ (n : Int) ≤ 57343 := by omega
              simp (disch := omega) [C_ref01_Encode, h0', h1, g1, h3, h4, g3, g4, hv, wrap8, wrap64, true_and, Int.tmod_eq_emod_of_nonneg, Int.tdiv_eq_ediv_of_nonneg]
              refine (settleZ_row (es := [avInt .u8 ((240 + (n : Int) / 262144) % 256), avInt .u8 ((128 + (n : Int) / 4096 % 64) % 256), avInt .u8 ((128 + (n : Int) / 64 % 64) % 256), avInt .u8 ((128 + (n : Int) % 64) % 256)]) (t := t_uint8 N) rfl rfl (by simp)).trans ?_
              simp [encB, encN, h5, h6, h7, avByte]

theorem accB_take (r : Int) : ∀ l : List UInt8, accB r l = l.foldl (fun r b => r * 64 + ((b.toNat % 64 : Nat) : Int)) r
  | [] => rfl
  | b :: l => by simp only [accB, List.foldl_cons]; exact accB_take _ l
theorem rfirst_val {b : List UInt8} {n : Nat} (h1 : 1 ≤ n) (h4 : n ≤ 4) (hl : n ≤ b.length) (h : (rfirst b).2 = n) : rfirst b = ((valN (b.take n) : Int), (n : Int)) := by
  refine Prod.ext ?_ h
  cases b with
  | nil => simp at hl; omega
  | cons a l =>
    have ha := a.toNat_lt
    simp only [rfirst] at h ⊢
    split at h
    · rename_i q; rw [if_pos q]; simp only [] at h; have : n = 1 := by omega
      subst this; simp [valN]
    · rename_i q
      rw [if_neg q]
      split at h
      · simp at h; omega
      · rename_i q2
        rw [if_neg q2]
        split at h
        · rename_i q3
          rw [if_pos q3]
          split at h
          · rename_i q4
            rw [if_pos q4]
            simp only [] at h
            have hln : lead a = n := by omega
            rw [hln] at q4 q2
            simp only [hln, headR]
            have hn : n = 2 ∨ n = 3 ∨ n = 4 := by omega
            rcases hn with rfl | rfl | rfl
            · obtain ⟨c, l, rfl⟩ : ∃ c l', l = c :: l' := by cases l with | nil => simp at hl | cons c l => exact ⟨c, l, rfl⟩
              simp [accB, valN]
            · obtain ⟨c, l, rfl⟩ : ∃ c l', l = c :: l' := by cases l with | nil => simp at hl | cons c l => exact ⟨c, l, rfl⟩
              obtain ⟨d, l, rfl⟩ : ∃ c l', l = c :: l' := by cases l with | nil => simp at hl | cons c l => exact ⟨c, l, rfl⟩
              simp [accB, valN]; omega
            · obtain ⟨c, l, rfl⟩ : ∃ c l', l = c :: l' := by cases l with | nil => simp at hl | cons c l => exact ⟨c, l, rfl⟩
              obtain ⟨d, l, rfl⟩ : ∃ c l', l = c :: l' := by cases l with | nil => simp at hl | cons c l => exact ⟨c, l, rfl⟩
              obtain ⟨e, l, rfl⟩ : ∃ c l', l = c :: l' := by cases l with | nil => simp at hl | cons c l => exact ⟨c, l, rfl⟩
              simp [accB, valN]; omega
          · simp at h; omega
        · simp at h; omega

structure Ref01 (Γ : Sums) (A : Tab) (N : Nat → Nat) : Prop where
  value : Has Γ A (f_ref01_value N) (C_ref01_value N)
  enc : Has Γ A (f_ref01_Encode N) (C_ref01_Encode N)
  first : Has Γ A (f_ref01_First N) (C_ref01_First N)
  signs : Has Γ A (f_ref01_Signs N) (C_ref01_Signs N)

theorem valN_lt (l : List UInt8) : valN l < 2 ^ 21 + 256 := by
  unfold valN
  split
  · rename_i a; have := a.toNat_lt; omega
  all_goals omega

theorem ref01_First_call (h : Ref01 Γ A N) (x : AV) (b : List UInt8) (H : Hp) (hx : VBytes H x b) (hbl : b.length < 2 ^ 62) : (lim Γ A).call (f_ref01_First N) [x] H = some (.tup [avInt .i64 (rfirst b).1, avInt .i64 (rfirst b).2], none) := by
  apply h.first.call (by rfl)
  replace hx : VBytes { l := H.l, d := none } x b := Vw.dd hx none
  have hlen := hx.len
  rw [List.length_map] at hlen
  simp [C_ref01_First]
  refine wp_round (fun k ρ H' => H' = { l := H.l, d := none } ∧ ∃ n : Nat, ρ 0 = x ∧ ρ 4 = avInt .i64 n ∧ 1 ≤ n ∧ n ≤ 5 ∧ n ≤ b.length + 1 ∧ (∀ m : Nat, 1 ≤ m → m < n → (rfirst b).2 ≠ m) ∧ k = 5 - n) (n := 4) ⟨rfl, 1, by simp, by simp, by omega, by omega, by omega, by omega, rfl⟩ ?_
  rintro k ρ H' ⟨rfl, n, r0, r4, hn1, hn5, hnl, hno, rfl⟩
  have stop : ¬ (n ≤ 4 ∧ n ≤ b.length) → rfirst b = (0, 0) := by
    intro hs
    have hz : (rfirst b).2 = 0 := by
      rcases rfirst_bound b with hz | ⟨h1, h2, h3⟩
      · exact hz
      · exfalso
        have := hno (rfirst b).2.toNat (by omega) (by omega)
        omega
    cases b with
    | nil => rfl
    | cons a l =>
      simp only [rfirst] at hz ⊢
      split at hz
      · simp at hz
      · rename_i q1
        rw [if_neg q1]
        split at hz
        · rename_i q2; rw [if_pos q2]
        · rename_i q2
          rw [if_neg q2]
          split at hz
          · rename_i q3
            rw [if_pos q3]
            split at hz
            · simp only [] at hz; omega
            · rename_i q4; rw [if_neg q4]
          · rename_i q3; rw [if_neg q3]
  by_cases hn4 : n ≤ 4
  · have g4 : (n : Int) ≤ 4 := by omega
    by_cases hnb : n ≤ b.length
    · have gb : (n : Int) ≤ b.length := by omega
      obtain ⟨y, hy1, hy2⟩ := Vw.upto hx (k' := .i64) (j := (n : Int)) (by omega) (by simp; omega)
      rw [Int.toNat_natCast, ← List.map_take] at hy2
      have htl : (b.take n).length = n := by simp; omega
      have e1 := ref01_value_call h.value y (b.take n) { l := H.l, d := none } hy2 (by omega) (by omega)
      have e2 := ref01_Encode_call h.enc (valN (b.take n)) { l := H.l, d := none }
      have hei := enc_iff b n hn1 hn4 hnb
      have hel := VBytes.str hy2
      have hw : IntKind.wrap .i64 ((n : Int) + 1) = ((n + 1 : Nat) : Int) := by rw [wrap64 (by omega) (by omega)]; omega
      have hv0 : (0 : Int) ≤ valN (b.take n) := by omega
      by_cases hv : validN (valN (b.take n)) = true
      · rw [if_pos ⟨hv0, by simpa using hv⟩, Int.toNat_natCast] at e2
        by_cases he : encB (valN (b.take n)) = b.take n
        · have hr := hei.1 ⟨hv, he⟩
          simp [L_ref01_First_1, r0, r4, hlen, g4, gb, hy1, e1, e2, hel, he, hr, -List.map_take]
        · have hne := he
          simp [L_ref01_First_1, r0, r4, hlen, g4, gb, hy1, e1, e2, hel, hne, hw, -Int.natCast_add]
          refine ⟨5 - (n + 1), by omega, n + 1, rfl, by omega, by omega, by omega, ?_, rfl⟩
          intro m hm1 hm2
          by_cases hm : m = n
          · subst hm
            intro hc
            exact he (hei.2 (rfirst_val hn1 hn4 hnb hc)).2
          · exact hno m hm1 (by omega)
      · rw [if_neg (by rintro ⟨_, h⟩; exact hv (by simpa using h))] at e2
        simp [L_ref01_First_1, r0, r4, hlen, g4, gb, hy1, e1, e2, hw, -Int.natCast_add]
        refine ⟨5 - (n + 1), by omega, n + 1, rfl, by omega, by omega, by omega, ?_, rfl⟩
        intro m hm1 hm2
        by_cases hm : m = n
        · subst hm
          intro hc
          exact hv (hei.2 (rfirst_val hn1 hn4 hnb hc)).1
        · exact hno m hm1 (by omega)
    · have gb : ¬ (n : Int) ≤ b.length := by omega
      simp [L_ref01_First_1, r0, r4, hlen, g4, gb, K_ref01_First_1, stop (by omega)]
  · have g4 : ¬ (n : Int) ≤ 4 := by omega
    simp [L_ref01_First_1, r0, r4, hlen, g4, K_ref01_First_1, stop (by omega)]
end
end Go.Proofs.Eng
