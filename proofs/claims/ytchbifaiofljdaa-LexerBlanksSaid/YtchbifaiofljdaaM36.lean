import Derived.Test.YtchbifaiofljdaaM35
import Derived.Test.YtchbifaiofljdaaM33
/- The functions of the reference of chapter 1, run by the engine. -/
set_option linter.unusedVariables false
set_option linter.unusedSimpArgs false
set_option maxRecDepth 100000
namespace Go.Proofs.Eng
open Go

/-! ### Plain laws of signs -/
def valN : List UInt8 → Nat
  | [a] => a.toNat
  | [a, b] => a.toNat % 32 * 64 + b.toNat % 64
  | [a, b, c] => a.toNat % 16 * 4096 + b.toNat % 64 * 64 + c.toNat % 64
  | [a, b, c, d] => a.toNat % 8 * 262144 + b.toNat % 64 * 4096 + c.toNat % 64 * 64 + d.toNat % 64
  | _ => 0
def validN (r : Nat) : Bool := decide (r ≤ 1114111) && !(decide (55296 ≤ r) && decide (r ≤ 57343))
def encN (r : Nat) : List Nat :=
  if r < 128 then [r] else if r < 2048 then [192 + r / 64, 128 + r % 64] else if r < 65536 then [224 + r / 4096, 128 + r / 64 % 64, 128 + r % 64]
  else [240 + r / 262144, 128 + r / 4096 % 64, 128 + r / 64 % 64, 128 + r % 64]
def encB (r : Nat) : List UInt8 := (encN r).map UInt8.ofNat

theorem u8_eq {n : Nat} {b : UInt8} (h : n < 256) : UInt8.ofNat n = b ↔ n = b.toNat := by
  constructor
  · rintro rfl; simp; omega
  · rintro rfl; simp

theorem ofNat_eq {n : Nat} {b : UInt8} : UInt8.ofNat n = b ↔ n % 256 = b.toNat := by
  constructor
  · rintro rfl; simp
  · intro h
    apply UInt8.toNat_inj.1
    simpa using h

theorem enc1 (a : UInt8) : (validN (valN [a]) = true ∧ encB (valN [a]) = [a]) ↔ a.toNat < 128 := by
  have ha := a.toNat_lt
  simp only [valN]
  constructor
  · rintro ⟨_, h⟩
    unfold encB encN at h
    split at h
    · assumption
    · split at h
      · simp at h
      · omega
  · intro h
    refine ⟨by simp [validN]; omega, ?_⟩
    unfold encB encN
    rw [if_pos h]
    simp
theorem enc2 (a c : UInt8) : (validN (valN [a, c]) = true ∧ encB (valN [a, c]) = [a, c]) ↔ (194 ≤ a.toNat ∧ a.toNat < 224 ∧ 128 ≤ c.toNat ∧ c.toNat < 192) := by
  have ha := a.toNat_lt
  have hc := c.toNat_lt
  simp only [valN]
  constructor
  · rintro ⟨_, h⟩
    unfold encB encN at h
    split at h
    · simp at h
    · split at h
      · simp only [List.map_cons, List.map_nil, List.cons.injEq, and_true, ofNat_eq] at h
        omega
      · split at h <;> simp at h
  · intro h
    refine ⟨by simp [validN]; omega, ?_⟩
    unfold encB encN
    rw [if_neg (by omega), if_pos (by omega)]
    simp only [List.map_cons, List.map_nil, List.cons.injEq, and_true, ofNat_eq]
    omega
theorem enc3 (a c d : UInt8) : (validN (valN [a, c, d]) = true ∧ encB (valN [a, c, d]) = [a, c, d]) ↔ (224 ≤ a.toNat ∧ a.toNat < 240 ∧ 128 ≤ c.toNat ∧ c.toNat < 192 ∧ 128 ≤ d.toNat ∧ d.toNat < 192 ∧ 2048 ≤ valN [a, c, d] ∧ (valN [a, c, d] < 55296 ∨ 57343 < valN [a, c, d])) := by
  have ha := a.toNat_lt
  have hc := c.toNat_lt
  have hd := d.toNat_lt
  simp only [valN]
  constructor
  · rintro ⟨hv, h⟩
    unfold encB encN at h
    split at h
    · simp at h
    · split at h
      · simp at h
      · split at h
        · simp only [List.map_cons, List.map_nil, List.cons.injEq, and_true, ofNat_eq] at h
          simp [validN] at hv
          omega
        · simp at h
  · intro h
    refine ⟨by simp [validN]; omega, ?_⟩
    unfold encB encN
    rw [if_neg (by omega), if_neg (by omega), if_pos (by omega)]
    simp only [List.map_cons, List.map_nil, List.cons.injEq, and_true, ofNat_eq]
    omega
theorem enc4 (a c d e : UInt8) : (validN (valN [a, c, d, e]) = true ∧ encB (valN [a, c, d, e]) = [a, c, d, e]) ↔ (240 ≤ a.toNat ∧ a.toNat < 248 ∧ 128 ≤ c.toNat ∧ c.toNat < 192 ∧ 128 ≤ d.toNat ∧ d.toNat < 192 ∧ 128 ≤ e.toNat ∧ e.toNat < 192 ∧ 65536 ≤ valN [a, c, d, e] ∧ valN [a, c, d, e] ≤ 1114111) := by
  have ha := a.toNat_lt
  have hc := c.toNat_lt
  have hd := d.toNat_lt
  have he := e.toNat_lt
  simp only [valN]
  constructor
  · rintro ⟨hv, h⟩
    unfold encB encN at h
    split at h
    · simp at h
    · split at h
      · simp at h
      · split at h
        · simp at h
        · simp only [List.map_cons, List.map_nil, List.cons.injEq, and_true, ofNat_eq] at h
          simp [validN] at hv
          omega
  · intro h
    refine ⟨by simp [validN]; omega, ?_⟩
    unfold encB encN
    rw [if_neg (by omega), if_neg (by omega), if_neg (by omega)]
    simp only [List.map_cons, List.map_nil, List.cons.injEq, and_true, ofNat_eq]
    omega

theorem lead_cases (a : UInt8) : (a.toNat < 128 ∧ lead a = 0) ∨ (128 ≤ a.toNat ∧ a.toNat < 192 ∧ lead a = 1) ∨ (192 ≤ a.toNat ∧ a.toNat < 224 ∧ lead a = 2) ∨ (224 ≤ a.toNat ∧ a.toNat < 240 ∧ lead a = 3) ∨ (240 ≤ a.toNat ∧ lead a = 4) := by
  unfold lead
  (repeat' split) <;> omega

theorem rfirst_snd (a : UInt8) (l : List UInt8) : (rfirst (a :: l)).2 = 0 ∨ ((rfirst (a :: l)).2 = 1 ∧ lead a = 0) ∨ ((rfirst (a :: l)).2 = lead a ∧ 2 ≤ lead a) := by
  simp only [rfirst]
  rcases lead_cases a with ⟨h, h'⟩ | ⟨h, _, h'⟩ | ⟨h, _, h'⟩ | ⟨h, _, h'⟩ | ⟨h, h'⟩
  · rw [if_pos h]; exact .inr (.inl ⟨rfl, h'⟩)
  · rw [if_neg (by omega), if_pos (by omega)]; exact .inl rfl
  all_goals
    rw [if_neg (by omega)]
    split
    · exact .inl rfl
    · split
      · split
        · exact .inr (.inr ⟨rfl, by omega⟩)
        · exact .inl rfl
      · exact .inl rfl

theorem enc_iff (b : List UInt8) (n : Nat) (h1 : 1 ≤ n) (h4 : n ≤ 4) (hl : n ≤ b.length) : (validN (valN (b.take n)) = true ∧ encB (valN (b.take n)) = b.take n) ↔ rfirst b = ((valN (b.take n) : Int), (n : Int)) := by
  have bad : ∀ (a : UInt8) (l : List UInt8) (m : Nat), 1 ≤ m → (m = 1 → lead a ≠ 0) → (2 ≤ m → lead a ≠ m) → ∀ x : Int, rfirst (a :: l) ≠ (x, (m : Int)) := by
    intro a l m hm h0 h2 x e
    have := rfirst_snd a l
    rw [e] at this
    simp only [] at this
    omega
  match n, b, hl with
  | 1, a :: l, _ =>
    simp only [List.take_succ_cons, List.take_zero]
    rw [enc1]
    constructor
    · intro h; simp [rfirst, h, valN]
    · intro h
      rcases lead_cases a with ⟨h2, _⟩ | ⟨_, _, h2⟩ | ⟨_, _, h2⟩ | ⟨_, _, h2⟩ | ⟨_, h2⟩
      · exact h2
      all_goals exact absurd h (bad a l 1 (by omega) (by omega) (by omega) _)
  | 2, a :: c :: l, _ =>
    simp only [List.take_succ_cons, List.take_zero]
    rw [enc2]
    have ha := a.toNat_lt
    rcases lead_cases a with ⟨h2, h3⟩ | ⟨h2, h2', h3⟩ | ⟨h2, h2', h3⟩ | ⟨h2, h2', h3⟩ | ⟨h2, h3⟩
    · exact ⟨fun h => by omega, fun h => absurd h (bad a _ 2 (by omega) (by omega) (by omega) _)⟩
    · exact ⟨fun h => by omega, fun h => absurd h (bad a _ 2 (by omega) (by omega) (by omega) _)⟩
    · simp only [rfirst, h3, headR, accB, runeSign, runeSize, isCont, valN, List.take_succ_cons, List.take_zero, List.all_cons, List.all_nil, List.length_cons]
      rw [if_neg (by omega), if_neg (by omega)]
      simp only [Bool.and_true, Bool.and_eq_true, Bool.or_eq_true, decide_eq_true_eq]
      by_cases hc : 128 ≤ c.toNat ∧ c.toNat < 192
      · rw [if_pos hc]
        by_cases hv : 194 ≤ a.toNat
        · rw [if_pos (by refine ⟨?_, ?_⟩ <;> (try (repeat' split)) <;> omega)]
          simp; omega
        · rw [if_neg (by rintro ⟨_, h⟩; (repeat' split at h) <;> omega)]
          simp; omega
      · rw [if_neg hc]
        simp; omega
    · exact ⟨fun h => by omega, fun h => absurd h (bad a _ 2 (by omega) (by omega) (by omega) _)⟩
    · exact ⟨fun h => by omega, fun h => absurd h (bad a _ 2 (by omega) (by omega) (by omega) _)⟩
  | 3, a :: c :: d :: l, _ =>
    simp only [List.take_succ_cons, List.take_zero]
    rw [enc3]
    have ha := a.toNat_lt
    rcases lead_cases a with ⟨h2, h3⟩ | ⟨h2, h2', h3⟩ | ⟨h2, h2', h3⟩ | ⟨h2, h2', h3⟩ | ⟨h2, h3⟩
    · exact ⟨fun h => by omega, fun h => absurd h (bad a _ 3 (by omega) (by omega) (by omega) _)⟩
    · exact ⟨fun h => by omega, fun h => absurd h (bad a _ 3 (by omega) (by omega) (by omega) _)⟩
    · exact ⟨fun h => by omega, fun h => absurd h (bad a _ 3 (by omega) (by omega) (by omega) _)⟩
    · simp only [rfirst, h3, headR, accB, runeSign, runeSize, isCont, valN, List.take_succ_cons, List.take_zero, List.all_cons, List.all_nil, List.length_cons]
      rw [if_neg (by omega), if_neg (by omega)]
      simp only [Bool.and_true, Bool.and_eq_true, Bool.or_eq_true, decide_eq_true_eq]
      by_cases hc : (128 ≤ c.toNat ∧ c.toNat < 192) ∧ 128 ≤ d.toNat ∧ d.toNat < 192
      · rw [if_pos hc]
        by_cases hv : 2048 ≤ a.toNat % 16 * 4096 + c.toNat % 64 * 64 + d.toNat % 64 ∧ (a.toNat % 16 * 4096 + c.toNat % 64 * 64 + d.toNat % 64 < 55296 ∨ 57343 < a.toNat % 16 * 4096 + c.toNat % 64 * 64 + d.toNat % 64)
        · rw [if_pos (by refine ⟨?_, ?_⟩ <;> (try (repeat' split)) <;> omega)]
          simp; omega
        · rw [if_neg (by rintro ⟨_, h⟩; (repeat' split at h) <;> omega)]
          simp; omega
      · rw [if_neg hc]
        simp; omega
    · exact ⟨fun h => by omega, fun h => absurd h (bad a _ 3 (by omega) (by omega) (by omega) _)⟩
  | 4, a :: c :: d :: e :: l, _ =>
    simp only [List.take_succ_cons, List.take_zero]
    rw [enc4]
    have ha := a.toNat_lt
    rcases lead_cases a with ⟨h2, h3⟩ | ⟨h2, h2', h3⟩ | ⟨h2, h2', h3⟩ | ⟨h2, h2', h3⟩ | ⟨h2, h3⟩
    · exact ⟨fun h => by omega, fun h => absurd h (bad a _ 4 (by omega) (by omega) (by omega) _)⟩
    · exact ⟨fun h => by omega, fun h => absurd h (bad a _ 4 (by omega) (by omega) (by omega) _)⟩
    · exact ⟨fun h => by omega, fun h => absurd h (bad a _ 4 (by omega) (by omega) (by omega) _)⟩
    · exact ⟨fun h => by omega, fun h => absurd h (bad a _ 4 (by omega) (by omega) (by omega) _)⟩
    · by_cases h248 : 248 ≤ a.toNat
      · simp only [rfirst]
        rw [if_neg (by omega), if_pos (by omega)]
        simp; omega
      · simp only [rfirst, h3, headR, accB, runeSign, runeSize, isCont, valN, List.take_succ_cons, List.take_zero, List.all_cons, List.all_nil, List.length_cons]
        rw [if_neg (by omega), if_neg (by omega)]
        simp only [Bool.and_true, Bool.and_eq_true, Bool.or_eq_true, decide_eq_true_eq]
        by_cases hc : (128 ≤ c.toNat ∧ c.toNat < 192) ∧ (128 ≤ d.toNat ∧ d.toNat < 192) ∧ 128 ≤ e.toNat ∧ e.toNat < 192
        · rw [if_pos hc]
          by_cases hv : 65536 ≤ a.toNat % 8 * 262144 + c.toNat % 64 * 4096 + d.toNat % 64 * 64 + e.toNat % 64 ∧ a.toNat % 8 * 262144 + c.toNat % 64 * 4096 + d.toNat % 64 * 64 + e.toNat % 64 ≤ 1114111
          · rw [if_pos (by refine ⟨?_, ?_⟩ <;> (try (repeat' split)) <;> omega)]
            simp; omega
          · rw [if_neg (by rintro ⟨hs, h⟩; (repeat' split at h) <;> omega)]
            simp; omega
        · rw [if_neg hc]
          simp; omega

/-! ### The walks -/
section
variable {Γ : Sums} {A : Tab} {N : Nat → Nat}

theorem ref01_value_call (h : Has Γ A (f_ref01_value N) (C_ref01_value N)) (x : AV) (l : List UInt8) (H : Hp) (hx : VBytes H x l) (h1 : 1 ≤ l.length) (h4 : l.length ≤ 4) : (lim Γ A).call (f_ref01_value N) [x] H = some (avInt .i64 (valN l), none) := by
  apply h.call (by rfl)
  replace hx : VBytes { l := H.l, d := none } x l := Vw.dd hx none
  have hlen := hx.len
  match l, h1, h4 with
  | [a], _, _ =>
    obtain ⟨p0, a0, b0⟩ := VBytes.at' hx (k := .i64) (i := 0) (by omega) (by simp)
    have ha := a.toNat_lt
    simp at a0 b0 hlen
    simp (disch := omega) [C_ref01_value, hlen, a0, b0, avByte, wrap64, valN]
  | [a, b], _, _ =>
    obtain ⟨p0, a0, b0⟩ := VBytes.at' hx (k := .i64) (i := 0) (by omega) (by simp)
    obtain ⟨p1, a1, b1⟩ := VBytes.at' hx (k := .i64) (i := 1) (by omega) (by simp)
    have ha := a.toNat_lt
    have hb := b.toNat_lt
    simp at a0 b0 a1 b1 hlen
    simp (disch := omega) [C_ref01_value, hlen, a0, b0, a1, b1, avByte, wrap64, valN, Int.tmod_eq_emod_of_nonneg]
  | [a, b, c], _, _ =>
    obtain ⟨p0, a0, b0⟩ := VBytes.at' hx (k := .i64) (i := 0) (by omega) (by simp)
    obtain ⟨p1, a1, b1⟩ := VBytes.at' hx (k := .i64) (i := 1) (by omega) (by simp)
    obtain ⟨p2, a2, b2⟩ := VBytes.at' hx (k := .i64) (i := 2) (by omega) (by simp)
    have ha := a.toNat_lt
    have hb := b.toNat_lt
    have hc := c.toNat_lt
    simp at a0 b0 a1 b1 a2 b2 hlen
    simp (disch := omega) [C_ref01_value, hlen, a0, b0, a1, b1, a2, b2, avByte, wrap64, valN, Int.tmod_eq_emod_of_nonneg]
  | [a, b, c, d], _, _ =>
    obtain ⟨p0, a0, b0⟩ := VBytes.at' hx (k := .i64) (i := 0) (by omega) (by simp)
    obtain ⟨p1, a1, b1⟩ := VBytes.at' hx (k := .i64) (i := 1) (by omega) (by simp)
    obtain ⟨p2, a2, b2⟩ := VBytes.at' hx (k := .i64) (i := 2) (by omega) (by simp)
    obtain ⟨p3, a3, b3⟩ := VBytes.at' hx (k := .i64) (i := 3) (by omega) (by simp)
    have ha := a.toNat_lt
    have hb := b.toNat_lt
    have hc := c.toNat_lt
    have hd := d.toNat_lt
    simp at a0 b0 a1 b1 a2 b2 a3 b3 hlen
    simp (disch := omega) [C_ref01_value, hlen, a0, b0, a1, b1, a2, b2, a3, b3, avByte, wrap64, valN, Int.tmod_eq_emod_of_nonneg]

theorem ref01_Encode_call (h : Has Γ A (f_ref01_Encode N) (C_ref01_Encode N)) (r : Int) (H : Hp) : (lim Γ A).call (f_ref01_Encode N) [avInt .i64 r] H =
    some (if 0 ≤ r ∧ validN r.toNat = true then .tup [.sl 1 ((encB r.toNat).map avByte), avBool true] else .tup [avNilS, avBool false], none) := by
  apply h.call (by rfl)
  by_cases h0 : r < 0
  · have : ¬ (0 ≤ r) := by omega
    simp [C_ref01_Encode, h0, this]
    rw [settleZ_frz (u := .tup [avNilS, avBool false]) rfl rfl]
  · obtain ⟨n, rfl⟩ : ∃ n : Nat, r = n := ⟨r.toNat, by omega⟩
    have h0' : ¬ ((n : Int) < 0) := by omega
    by_cases h1 : 1114111 < (n : Int)
    · have hv : validN n = false := by simp [validN]; omega
      simp [C_ref01_Encode, h0', h1, hv]
      rw [settleZ_frz (u := .tup [avNilS, avBool false]) rfl rfl]
    · by_cases h2 : 55296 ≤ (n : Int) ∧ (n : Int) ≤ 57343
      · have hv : validN n = false := by simp [validN]; omega
        simp [C_ref01_Encode, h0', h1, h2.1, h2.2, hv]
        rw [settleZ_frz (u := .tup [avNilS, avBool false]) rfl rfl]
      · have hv : validN n = true := by simp [validN]; omega
        have hn0 : (0 : Int) ≤ n := by omega
        by_cases h5 : n < 128
        · have g1 : (n : Int) < 128 := by omega
          have g2 : ¬ 55296 ≤ (n : Int) := by omega
          simp (disch := omega) [C_ref01_Encode, h0', h1, g1, g2, hv, wrap8, true_and]
          refine (settleZ_row (es := [avInt .u8 ((n : Int) % 256)]) (t := t_uint8 N) rfl rfl (by simp)).trans ?_
          simp [encB, encN, h5, avByte]
        · by_cases h6 : n < 2048
          · have g1 : ¬ (n : Int) < 128 := by omega
            have g3 : (n : Int) < 2048 := by omega
            have g2 : ¬ 55296 ≤ (n : Int) := by omega
            simp (disch := omega) [C_ref01_Encode, h0', h1, g1, g2, g3, hv, wrap8, wrap64, true_and, Int.tmod_eq_emod_of_nonneg, Int.tdiv_eq_ediv_of_nonneg]
            refine (settleZ_row (es := [avInt .u8 ((192 + (n : Int) / 64) % 256), avInt .u8 ((128 + (n : Int) % 64) % 256)]) (t := t_uint8 N) rfl rfl (by simp)).trans ?_
            simp [encB, encN, h5, h6, avByte]
          · have g1 : ¬ (n : Int) < 128 := by omega
            have g3 : ¬ (n : Int) < 2048 := by omega
            by_cases h7 : n < 65536
            · have g4 : (n : Int) < 65536 := by omega
              have fin : ∀ H', H' = halloc { l := H.l, d := none } (.arr 1 [avInt .u8 ((224 + (n : Int) / 4096) % 256), avInt .u8 ((128 + (n : Int) / 64 % 64) % 256), avInt .u8 ((128 + (n : Int) % 64) % 256)] (t_uint8 N)) →
                  settleZ true H (.tup [.ra 1 H.l.length 0 3, avBool true]) H' = (.tup [.sl 1 ((encB n).map avByte), avBool true], none) := by
                rintro H' rfl
                refine (settleZ_row (es := [avInt .u8 ((224 + (n : Int) / 4096) % 256), avInt .u8 ((128 + (n : Int) / 64 % 64) % 256), avInt .u8 ((128 + (n : Int) % 64) % 256)]) (t := t_uint8 N) rfl rfl (by simp)).trans ?_
                simp [encB, encN, h5, h6, h7, avByte]
              by_cases h3 : 55296 ≤ (n : Int)
              · have h4 : ¬ (n : Int) ≤ 57343 := by omega
                simp (disch := omega) [C_ref01_Encode, h0', h1, g1, h3, h4, g3, g4, hv, wrap8, wrap64, true_and, Int.tmod_eq_emod_of_nonneg, Int.tdiv_eq_ediv_of_nonneg]
                exact fin _ rfl
              · simp (disch := omega) [C_ref01_Encode, h0', h1, g1, h3, g3, g4, hv, wrap8, wrap64, true_and, Int.tmod_eq_emod_of_nonneg, Int.tdiv_eq_ediv_of_nonneg]
                exact fin _ rfl
            · have g4 : ¬ (n : Int) < 65536 := by omega
              have h3 : 55296 ≤ (n : Int) := by omega
              have h4 : ¬ (n : Int) ≤ 57343 := by omega
              simp (disch := omega) [C_ref01_Encode, h0', h1, g1, h3, h4, g3, g4, hv, wrap8, wrap64, true_and, Int.tmod_eq_emod_of_nonneg, Int.tdiv_eq_ediv_of_nonneg]
              refine (settleZ_row (es := [avInt .u8 ((240 + (n : Int) / 262144) % 256), avInt .u8 ((128 + (n : Int) / 4096 % 64) % 256), avInt .u8 ((128 + (n : Int) / 64 % 64) % 256), avInt .u8 ((128 + (n : Int) % 64) % 256)]) (t := t_uint8 N) rfl rfl (by simp)).trans ?_
              simp [encB, encN, h5, h6, h7, avByte]

theorem accB_take (r : Int) : ∀ l : List UInt8, accB r l = l.foldl (fun r b => r * 64 + ((b.toNat % 64 : Nat) : Int)) r
  | [] => rfl
  | b :: l => by simp only [accB, List.foldl_cons]; exact accB_take _ l
theorem rfirst_val {b : List UInt8} {n : Nat} (h1 : 1 ≤ n) (h4 : n ≤ 4) (hl : n ≤ b.length) (h : (rfirst b).2 = n) : rfirst b = ((valN (b.take n) : Int), (n : Int)) := by
  refine Prod.ext ?_ h
  cases b with
  | nil => simp at hl; omega
  | cons a l =>
    have ha := a.toNat_lt
    simp only [rfirst] at h ⊢
    split at h
    · rename_i q; rw [if_pos q]; simp only [] at h; have : n = 1 := by omega
      subst this; simp [valN]
    · rename_i q
      rw [if_neg q]
      split at h
      · simp at h; omega
      · rename_i q2
        rw [if_neg q2]
        split at h
        · rename_i q3
          rw [if_pos q3]
          split at h
          · rename_i q4
            rw [if_pos q4]
            simp only [] at h
            have hln : lead a = n := by omega
            rw [hln] at q4 q2
            simp only [hln, headR]
            have hn : n = 2 ∨ n = 3 ∨ n = 4 := by omega
            rcases hn with rfl | rfl | rfl
            · obtain ⟨c, l, rfl⟩ : ∃ c l', l = c :: l' := by cases l with | nil => simp at hl | cons c l => exact ⟨c, l, rfl⟩
              simp [accB, valN]
            · obtain ⟨c, l, rfl⟩ : ∃ c l', l = c :: l' := by cases l with | nil => simp at hl | cons c l => exact ⟨c, l, rfl⟩
              obtain ⟨d, l, rfl⟩ : ∃ c l', l = c :: l' := by cases l with | nil => simp at hl | cons c l => exact ⟨c, l, rfl⟩
              simp [accB, valN]; omega
            · obtain ⟨c, l, rfl⟩ : ∃ c l', l = c :: l' := by cases l with | nil => simp at hl | cons c l => exact ⟨c, l, rfl⟩
              obtain ⟨d, l, rfl⟩ : ∃ c l', l = c :: l' := by cases l with | nil => simp at hl | cons c l => exact ⟨c, l, rfl⟩
              obtain ⟨e, l, rfl⟩ : ∃ c l', l = c :: l' := by cases l with | nil => simp at hl | cons c l => exact ⟨c, l, rfl⟩
              simp [accB, valN]; omega
          · simp at h; omega
        · simp at h; omega

structure Ref01 (Γ : Sums) (A : Tab) (N : Nat → Nat) : Prop where
  value : Has Γ A (f_ref01_value N) (C_ref01_value N)
  enc : Has Γ A (f_ref01_Encode N) (C_ref01_Encode N)
  first : Has Γ A (f_ref01_First N) (C_ref01_First N)
  signs : Has Γ A (f_ref01_Signs N) (C_ref01_Signs N)

theorem valN_lt (l : List UInt8) : valN l < 2 ^ 21 + 256 := by
  unfold valN
  split
  · rename_i a; have := a.toNat_lt; omega
  all_goals omega

theorem ref01_First_call (h : Ref01 Γ A N) (x : AV) (b : List UInt8) (H : Hp) (hx : VBytes H x b) (hbl : b.length < 2 ^ 62) : (lim Γ A).call (f_ref01_First N) [x] H = some (.tup [avInt .i64 (rfirst b).1, avInt .i64 (rfirst b).2], none) := by
  apply h.first.call (by rfl)
  replace hx : VBytes { l := H.l, d := none } x b := Vw.dd hx none
  have hlen := hx.len
  rw [List.length_map] at hlen
  simp [C_ref01_First]
  refine wp_round (fun k ρ H' => H' = { l := H.l, d := none } ∧ ∃ n : Nat, ρ 0 = x ∧ ρ 4 = avInt .i64 n ∧ 1 ≤ n ∧ n ≤ 5 ∧ n ≤ b.length + 1 ∧ (∀ m : Nat, 1 ≤ m → m < n → (rfirst b).2 ≠ m) ∧ k = 5 - n) (n := 4) ⟨rfl, 1, by simp, by simp, by omega, by omega, by omega, by omega, rfl⟩ ?_
  rintro k ρ H' ⟨rfl, n, r0, r4, hn1, hn5, hnl, hno, rfl⟩
  have stop : ¬ (n ≤ 4 ∧ n ≤ b.length) → rfirst b = (0, 0) := by
    intro hs
    have hz : (rfirst b).2 = 0 := by
      rcases rfirst_bound b with hz | ⟨h1, h2, h3⟩
      · exact hz
      · exfalso
        have := hno (rfirst b).2.toNat (by omega) (by omega)
        omega
    cases b with
    | nil => rfl
    | cons a l =>
      simp only [rfirst] at hz ⊢
      split at hz
      · simp at hz
      · rename_i q1
        rw [if_neg q1]
        split at hz
        · rename_i q2; rw [if_pos q2]
        · rename_i q2
          rw [if_neg q2]
          split at hz
          · rename_i q3
            rw [if_pos q3]
            split at hz
            · simp only [] at hz; omega
            · rename_i q4; rw [if_neg q4]
          · rename_i q3; rw [if_neg q3]
  by_cases hn4 : n ≤ 4
  · have g4 : (n : Int) ≤ 4 := by omega
    by_cases hnb : n ≤ b.length
    · have gb : (n : Int) ≤ b.length := by omega
      obtain ⟨y, hy1, hy2⟩ := Vw.upto hx (k' := .i64) (j := (n : Int)) (by omega) (by simp; omega)
      rw [Int.toNat_natCast, ← List.map_take] at hy2
      have htl : (b.take n).length = n := by simp; omega
      have e1 := ref01_value_call h.value y (b.take n) { l := H.l, d := none } hy2 (by omega) (by omega)
      have e2 := ref01_Encode_call h.enc (valN (b.take n)) { l := H.l, d := none }
      have hei := enc_iff b n hn1 hn4 hnb
      have hel := VBytes.str hy2
      have hw : IntKind.wrap .i64 ((n : Int) + 1) = ((n + 1 : Nat) : Int) := by rw [wrap64 (by omega) (by omega)]; omega
      have hv0 : (0 : Int) ≤ valN (b.take n) := by omega
      by_cases hv : validN (valN (b.take n)) = true
      · rw [if_pos ⟨hv0, by simpa using hv⟩, Int.toNat_natCast] at e2
        by_cases he : encB (valN (b.take n)) = b.take n
        · have hr := hei.1 ⟨hv, he⟩
          simp [L_ref01_First_1, r0, r4, hlen, g4, gb, hy1, e1, e2, hel, he, hr, -List.map_take]
        · have hne := he
          simp [L_ref01_First_1, r0, r4, hlen, g4, gb, hy1, e1, e2, hel, hne, hw, -Int.natCast_add]
          refine ⟨5 - (n + 1), by omega, n + 1, rfl, by omega, by omega, by omega, ?_, rfl⟩
          intro m hm1 hm2
          by_cases hm : m = n
          · subst hm
            intro hc
            exact he (hei.2 (rfirst_val hn1 hn4 hnb hc)).2
          · exact hno m hm1 (by omega)
      · rw [if_neg (by rintro ⟨_, h⟩; exact hv (by simpa using h))] at e2
        simp [L_ref01_First_1, r0, r4, hlen, g4, gb, hy1, e1, e2, hw, -Int.natCast_add]
        refine ⟨5 - (n + 1), by omega, n + 1, rfl, by omega, by omega, by omega, ?_, rfl⟩
        intro m hm1 hm2
        by_cases hm : m = n
        · subst hm
          intro hc
          exact hv (hei.2 (rfirst_val hn1 hn4 hnb hc)).1
        · exact hno m hm1 (by omega)
    · have gb : ¬ (n : Int) ≤ b.length := by omega
      simp [L_ref01_First_1, r0, r4, hlen, g4, gb, K_ref01_First_1, stop (by omega)]
  · have g4 : ¬ (n : Int) ≤ 4 := by omega
    simp [L_ref01_First_1, r0, r4, hlen, g4, K_ref01_First_1, stop (by omega)]
end
end Go.Proofs.Eng
/- The functions of the reference of chapter 1 that go on for a whole text, run by the engine. -/
set_option linter.unusedVariables false
set_option linter.unusedSimpArgs false
set_option maxRecDepth 100000
namespace Go.Proofs.Eng
open Go
section
variable {Γ : Sums} {A : Tab} {N : Nat → Nat}

theorem rstop_fuel : ∀ (k j at' : Nat) (b : List UInt8), b.length ≤ k → b.length ≤ j → rstop k at' b = rstop j at' b
  | 0, 0, _, _, _, _ => rfl
  | 0, j + 1, at', b, h, _ => by
    have : b = [] := by cases b with | nil => rfl | cons => simp at h
    subst this; simp [rstop, rfirst]
  | k + 1, 0, at', b, _, h => by
    have : b = [] := by cases b with | nil => rfl | cons => simp at h
    subst this; simp [rstop, rfirst]
  | k + 1, j + 1, at', b, h1, h2 => by
    simp only [rstop]
    rcases rfirst_bound b with h | ⟨h3, h4, h5⟩
    · simp [h]
    · have hne : ¬ (rfirst b).2 = 0 := by omega
      rw [if_neg hne, if_neg hne, rstop_fuel k j _ _ (by simp; omega) (by simp; omega)]
theorem rstop_stop {at' : Nat} {b : List UInt8} (h : (rfirst b).2 = 0) (k : Nat) : rstop k at' b = at' := by
  cases k with
  | zero => rfl
  | succ k => simp [rstop, h]
theorem rstop_step {at' : Nat} {b : List UInt8} (h : (rfirst b).2 ≠ 0) : rstop b.length at' b = rstop (b.drop (rfirst b).2.toNat).length (at' + (rfirst b).2.toNat) (b.drop (rfirst b).2.toNat) := by
  rcases rfirst_bound b with h' | ⟨h3, h4, h5⟩
  · exact absurd h' h
  · obtain ⟨k, hk⟩ : ∃ k, b.length = k + 1 := ⟨b.length - 1, by omega⟩
    rw [hk]
    simp only [rstop]
    rw [if_neg h, rstop_fuel k _ _ _ (by simp; omega) (Nat.le_refl _)]

theorem ref01_Signs_call (h : Ref01 Γ A N) (x : AV) (b : List UInt8) (H : Hp) (hx : VBytes H x b) (hbl : b.length < 2 ^ 36) :
    ∃ p s hh os1 os2, (lim Γ A).call (f_ref01_Signs N) [x] H = some (.tup [p, s, avInt .i64 (stopOf b)], hh) ∧ Row (t_int N) 1 p ((allOf b).map fun q => avInt .i64 q.1) os1 ∧ Row (t_int N) 1 s ((allOf b).map fun q => avInt .i64 q.2) os2 ∧ Adds H hh (os1 ++ os2) := by
  have hlen := Vw.len hx
  rw [List.length_map] at hlen
  obtain ⟨R, hR⟩ : ∃ R : AV × Option Hp → Prop, R = fun r => ∃ p s hh os1 os2, r = (.tup [p, s, avInt .i64 (stopOf b)], hh) ∧ Row (t_int N) 1 p ((allOf b).map fun q => avInt .i64 q.1) os1 ∧ Row (t_int N) 1 s ((allOf b).map fun q => avInt .i64 q.2) os2 ∧ Adds H hh (os1 ++ os2) := ⟨_, rfl⟩
  have key : ∃ r, (lim Γ A).call (f_ref01_Signs N) [x] H = some r ∧ R r := by
    apply h.signs.callP (by rfl)
    simp [C_ref01_Signs]
    refine wp_round (fun k ρ H' => ∃ (i at' : Nat) (p s : AV) (os1 os2 : List (Nat × AObj)), ρ 0 = x ∧ ρ 5 = p ∧ ρ 6 = s ∧ ρ 7 = avInt .i64 at' ∧ at' ≤ b.length ∧ i ≤ at' ∧
        Row (t_int N) 1 p (((allOf b).take i).map fun q => avInt .i64 q.1) os1 ∧ Row (t_int N) 1 s (((allOf b).take i).map fun q => avInt .i64 q.2) os2 ∧ Loc H H' (os1 ++ os2) ∧
        (allOf b).drop i = rsigns (b.drop at').length at' (b.drop at') ∧ rstop (b.drop at').length at' (b.drop at') = stopOf b ∧ k = b.length - at') (n := b.length) ?_ ?_
    · refine ⟨0, 0, _, _, [(H.l.length, .arr 1 [] (t_int N))], [(H.l.length + 1, .arr 1 [] (t_int N))], by simp, by simp; rfl, by simp; rfl, by simp, by omega, by omega, ?_, ?_, ?_, by simp [allOf], by simp [stopOf], by simp⟩
      · exact Row.mk _ _ _ []
      · exact Row.mk _ _ _ []
      · have := (((Loc.start H).alloc (.arr 1 [] (t_int N))).alloc (.arr 1 [] (t_int N)))
        simp at this
        exact this.perm (List.Perm.swap _ _ _)
    · rintro k ρ H' ⟨i, at', p, s, os1, os2, r0, r5, r6, r7, hat, hia, hp, hs, hL, hd, hst, rfl⟩
      have fin' : ∀ ρ : Rho, ρ 0 = x → ρ 5 = p → ρ 6 = s → ρ 7 = avInt .i64 at' → rsigns (b.drop at').length at' (b.drop at') = [] → rstop (b.drop at').length at' (b.drop at') = at' → wp (lim Γ A) none (K_ref01_Signs_1 N) ρ H' (Ends [.inl 2, .inl 3, .inl 4] false H R) := by
        intro ρ r0 r5 r6 r7 e1 e2
        rw [e1] at hd
        rw [e2] at hst
        have hti : (allOf b).take i = allOf b := List.take_of_length_le (List.drop_eq_nil_iff.1 hd)
        rw [hti] at hp hs
        obtain ⟨hh, f1, f2⟩ := settle_adds (v := .tup [p, s, avInt .i64 at']) hL (by
          intro hu
          simp only [AV.under, AV.unders, Bool.and_true, Bool.and_eq_true] at hu
          rw [hp.under hL (fun q hq => List.mem_append_left _ hq) hu.1, hs.under hL (fun q hq => List.mem_append_right _ hq) hu.2]; rfl)
        simp [K_ref01_Signs_1, r5, r6, r7]
        rw [f1, hR, hst]
        exact ⟨p, s, hh, os1, os2, rfl, hp, hs, f2⟩
      by_cases hlt : at' < b.length
      · have hlt' : (at' : Int) < b.length := by omega
        have hxv := Vw.loc hx hL
        obtain ⟨y, hy1, hy2⟩ := Vw.from' hxv (k := .i64) (i := (at' : Int)) (by omega) (by simp; omega)
        rw [Int.toNat_natCast, ← List.map_drop] at hy2
        have hf := ref01_First_call h y (b.drop at') H' hy2 (by rw [List.length_drop]; omega)
        rcases rfirst_bound (b.drop at') with hz | ⟨h3, h4, h5⟩
        · simp [L_ref01_Signs_1, r0, r5, r6, r7, hlen, hlt', hy1, hf, hz]
          refine fin' _ ?_ ?_ ?_ ?_ (rsigns_stop hz _) ?_ <;> try simp [r0, r5, r6, r7]
          exact rstop_stop hz _
        · have hz : ¬ (rfirst (b.drop at')).2 = 0 := by omega
          have hd2 := hd
          rw [rsigns_step hz] at hd2
          have hi : i < (allOf b).length := by
            rcases Nat.lt_or_ge i (allOf b).length with h | h
            · exact h
            · rw [List.drop_eq_nil_of_le h] at hd2; cases hd2
          rw [List.drop_eq_getElem_cons hi] at hd2
          injection hd2 with hs1 hs2
          have htk : (allOf b).take (i + 1) = (allOf b).take i ++ [(at', (rfirst (b.drop at')).1)] := by rw [List.take_succ_eq_append_getElem hi, hs1]
          rw [List.length_drop] at h5
          have hil : ((allOf b).take i).length = i := by simp; omega
          have hL1 := (hL.alloc (.arr 1 [avInt .i64 at'] (t_int N))).perm (os' := os1 ++ (H'.l.length, .arr 1 [avInt .i64 at'] (t_int N)) :: os2) List.perm_middle.symm
          obtain ⟨p2, H2, os1', a1, a2, a3⟩ := hp.append (bytes := 8) (ys := [avInt .i64 at']) hL1 (by simp) (by simp [roomMax]; omega) (by simp)
          have hL2 := (a3.perm (os' := os2 ++ (H'.l.length, .arr 1 [avInt .i64 at'] (t_int N)) :: os1') (by
            refine (List.perm_append_comm).trans ?_
            simp only [List.cons_append]
            exact List.perm_middle.symm)).alloc (.arr 1 [avInt .i64 (rfirst (b.drop at')).1] (t_int N))
          have hL3 := hL2.perm (os' := os2 ++ (H2.l.length, .arr 1 [avInt .i64 (rfirst (b.drop at')).1] (t_int N)) :: (H'.l.length, .arr 1 [avInt .i64 at'] (t_int N)) :: os1') List.perm_middle.symm
          obtain ⟨s2, H3, os2', b1, b2, b3⟩ := hs.append (bytes := 8) (ys := [avInt .i64 (rfirst (b.drop at')).1]) hL3 (by simp) (by simp [roomMax]; omega) (by simp)
          have e1 : asElems (halloc H' (.arr 1 [avInt .i64 at'] (t_int N))) (.ra 1 H'.l.length 0 1) = some [avInt .i64 at'] := by simp [asElems]
          have e2 : asElems (halloc H2 (.arr 1 [avInt .i64 (rfirst (b.drop at')).1] (t_int N))) (.ra 1 H2.l.length 0 1) = some [avInt .i64 (rfirst (b.drop at')).1] := by simp [asElems]
          have hw : IntKind.wrap .i64 ((at' : Int) + (rfirst (b.drop at')).2) = ((at' + (rfirst (b.drop at')).2.toNat : Nat) : Int) := by rw [wrap64 (by omega) (by omega)]; omega
          simp [L_ref01_Signs_1, r0, r5, r6, r7, hlen, hlt', hy1, hf, hz, e1, a1, e2, b1, hw, -Int.natCast_add]
          refine ⟨b.length - (at' + (rfirst (b.drop at')).2.toNat), by omega, i + 1, at' + (rfirst (b.drop at')).2.toNat, rfl, by omega, by omega, os1', ?_, os2', ?_, ?_, ?_, ?_, rfl⟩
          · rw [← List.map_take, htk]; simpa using a2
          · rw [← List.map_take, htk]; simpa using b2
          · refine (b3.sub (os' := os2' ++ os1') ?_).perm List.perm_append_comm
            refine List.Sublist.append (List.Sublist.refl _) ?_
            exact ((List.Sublist.refl _).cons _).cons _
          · rw [hs2, List.drop_drop, List.length_drop]
          · rw [← hst, rstop_step hz, List.drop_drop, List.length_drop]
      · have hlt' : ¬ (at' : Int) < b.length := by omega
        simp [L_ref01_Signs_1, r0, r5, r6, r7, hlen, hlt']
        refine fin' _ ?_ ?_ ?_ ?_ ?_ ?_ <;> try simp [r0, r5, r6, r7]
        · rw [List.drop_eq_nil_of_le (by omega)]; exact rsigns_stop rfl _
        · rw [List.drop_eq_nil_of_le (by omega)]; exact rstop_stop rfl _
  obtain ⟨r, e, e2⟩ := key
  rw [hR] at e2
  obtain ⟨p, s, hh, os1, os2, rfl, e2⟩ := e2
  exact ⟨p, s, hh, os1, os2, e, e2⟩
end
end Go.Proofs.Eng
/- The reference of chapter 3, run by the engine: the tokens of a text. -/
set_option linter.unusedVariables false
set_option linter.unusedSimpArgs false
set_option maxRecDepth 100000
namespace Go.Proofs.Eng
open Go
section
variable {Γ : Sums} {A : Tab} {N : Nat → Nat}
/-- What stands from a place on, blanks ahead of it. -/
def tokS (b : List UInt8) (at' : Nat) : List Tok × Option Nat := tokR (at' + blankB (b.drop at')) ((b.drop at').drop (blankB (b.drop at')))
theorem tokS_end {b : List UInt8} {at' : Nat} (h : b.length ≤ at') : tokS b at' = ([(0, [], at')], none) := by
  unfold tokS
  rw [List.drop_of_length_le h, blankB_nil]
  rfl
theorem tokS_blank {b : List UInt8} {at' : Nat} (h : at' < b.length) (hb : isBlank b[at'] = true) : tokS b at' = tokS b (at' + 1) := by
  unfold tokS
  have hd : b.drop at' = b[at'] :: b.drop (at' + 1) := List.drop_eq_getElem_cons h
  have hz : blankB (b.drop at') = 1 + blankB (b.drop (at' + 1)) := by rw [hd, blankB_cons, if_pos hb]
  rw [hz, List.drop_drop, List.drop_drop, ← Nat.add_assoc]
theorem tokS_note {b : List UInt8} {at' : Nat} (h : at' + 1 < b.length) (h1 : b[at'] = 47) (h2 : b[at' + 1] = 47) : tokS b at' = tokS b (at' + runB notLine (b.drop at')) := by
  have hd : b.drop at' = b[at'] :: b.drop (at' + 1) := List.drop_eq_getElem_cons (by omega)
  have hd2 : b.drop (at' + 1) = b[at' + 1] :: b.drop (at' + 2) := List.drop_eq_getElem_cons h
  have hr : runB notLine (b.drop at') = 1 + runB notLine (b.drop (at' + 1)) := by
    rw [hd, h1]
    simp [runB, notLine]
    omega
  unfold tokS
  have hz : blankB (b.drop at') = runB notLine (b.drop at') + blankB (b.drop (at' + runB notLine (b.drop at'))) := by
    conv => lhs; rw [hd, blankB_cons]
    have hnb : ¬ isBlank b[at'] = true := by rw [h1]; decide
    have hp : [47, 47].isPrefixOf (b[at'] :: b.drop (at' + 1)) = true := by rw [hd2, h1, h2]; simp [List.isPrefixOf]
    rw [if_neg hnb, if_pos hp, hr, List.drop_drop]
    rw [show at' + 1 + runB notLine (b.drop (at' + 1)) = at' + (1 + runB notLine (b.drop (at' + 1))) from by omega]
  rw [hz, List.drop_drop, List.drop_drop, ← Nat.add_assoc]
theorem tokS_tok {b : List UInt8} {at' : Nat} (h : at' < b.length) (hb : isBlank b[at'] = false) (hn : [47, 47].isPrefixOf (b.drop at') = false) : tokS b at' = (match oneB (b.drop at') with
    | none => ([], some at')
    | some (kd, t, n) => ((kd, t, at') :: (tokS b (at' + n)).1, (tokS b (at' + n)).2)) := by
  have hd : b.drop at' = b[at'] :: b.drop (at' + 1) := List.drop_eq_getElem_cons h
  have hz : blankB (b.drop at') = 0 := by
    rw [hd] at hn ⊢
    rw [blankB_cons, if_neg (by rw [hb]; decide), if_neg (by rw [hn]; decide)]
  have hne : b.drop at' ≠ [] := by rw [hd]; exact List.cons_ne_nil _ _
  conv => lhs; unfold tokS; rw [hz, Nat.add_zero, List.drop_zero]
  cases ho : oneB (b.drop at') with
  | none => rw [tokR_none hne ho]
  | some q =>
    obtain ⟨kd, t, n⟩ := q
    rw [tokR_some hne ho]
    simp only [tokS, List.drop_drop]

/-- The note's own loop. -/
theorem note_loop {x : AV} {b : List UInt8} {H : Hp} (hx : VBytes H x b) (hl : b.length < 2 ^ 36) {a : Nat} {ρ : Rho} {Q : Post} {p3 p7 : AV} (r0 : ρ 0 = x) (r3 : ρ 3 = p3) (r7 : ρ 7 = p7) (r8 : ρ 8 = avInt .i64 a) (ha : a ≤ b.length)
    (hQ : ∀ ρ' : Rho, ρ' 0 = x → ρ' 3 = p3 → ρ' 7 = p7 → ρ' 8 = avInt .i64 ((a + runB notLine (b.drop a) : Nat) : Int) → Q (.exit 2) ρ' H) : wp (lim Γ A) none (.loop (L_ref03_Lex_2 N)) ρ H Q := by
  have hlen := Vw.len hx
  rw [List.length_map] at hlen
  refine wp_round (fun k ρ H' => H' = H ∧ ∃ i : Nat, ρ 0 = x ∧ ρ 3 = p3 ∧ ρ 7 = p7 ∧ ρ 8 = avInt .i64 i ∧ i ≤ b.length ∧ a + runB notLine (b.drop a) = i + runB notLine (b.drop i) ∧ k = b.length - i) (n := b.length - a) ⟨rfl, a, r0, r3, r7, r8, ha, rfl, rfl⟩ ?_
  rintro k ρ H' ⟨rfl, i, r0, r3, r7, r8, hi, hr, rfl⟩
  by_cases hlt : i < b.length
  · have hlt' : (i : Int) < b.length := by omega
    obtain ⟨q, hq1, hq2⟩ := VBytes.at' hx (k := .i64) (i := (i : Int)) (by omega) (by simpa using hlt)
    simp only [Int.toNat_natCast] at hq1 hq2
    have hd : b.drop i = b[i] :: b.drop (i + 1) := List.drop_eq_getElem_cons hlt
    rw [hd] at hr
    generalize b[i] = c at *
    by_cases c10 : c.toNat = 10
    · have c10' : (c.toNat : Int) = 10 := by omega
      have hz : runB notLine (c :: b.drop (i + 1)) = 0 := runB_stop (by simp [notLine, c10])
      rw [hz, Nat.add_zero] at hr
      simp [L_ref03_Lex_2, r0, r8, hlen, hlt', hq1, hq2, c10', -Int.natCast_add]
      refine hQ _ ?_ ?_ ?_ ?_
      · simp [r0]
      · simp [r3]
      · simp [r7]
      · rw [hr]; simp [r8]
    · have c10' : ¬ (c.toNat : Int) = 10 := by omega
      have hw : IntKind.wrap .i64 ((i : Int) + 1) = ((i + 1 : Nat) : Int) := by rw [wrap64 (by omega) (by omega)]; omega
      simp [L_ref03_Lex_2, r0, r3, r7, r8, hlen, hlt', hq1, hq2, c10', hw, -Int.natCast_add]
      refine ⟨b.length - (i + 1), by omega, i + 1, rfl, by omega, ?_, rfl⟩
      rw [hr]
      simp [runB, notLine, c10]
      omega
  · have hlt' : ¬ (i : Int) < b.length := by omega
    rw [show b.drop i = [] from List.drop_of_length_le (by omega)] at hr
    simp [L_ref03_Lex_2, r0, r8, hlen, hlt', -Int.natCast_add]
    refine hQ _ ?_ ?_ ?_ ?_
    · simp [r0]
    · simp [r3]
    · simp [r7]
    · rw [hr]; simp [r8, runB]

abbrev D0 (N : Nat → Nat) : AObj := .cells [.lit (.int .i64 0), .lit (.int .i64 0), .lit (.string (mkS []))] (t_api_Diag N)
structure Ref03A (Γ : Sums) (A : Tab) (N : Nat → Nat) : Prop extends Ref03O Γ A N where
  ref01 : Ref01 Γ A N
  lex : Has Γ A (f_ref03_Lex N) (C_ref03_Lex N)

/-- One token, put behind the others. -/
theorem lex_tok (h : Ref03O Γ A N) {x : AV} {b : List UInt8} {H0 H' : Hp} (hx : VBytes H0 x b) (hl : b.length < 2 ^ 30) {a : Nat} (ha : a < b.length) {l : List Tok} {p : AV} {os rs : List (Nat × AObj)} {ρ : Rho} {Q : Post}
    (hL : Loc H0 H' (os ++ (H0.l.length, D0 N) :: rs)) (hp : Row (t_api_Token N) 3 p (l.map tokA) os) (hll : l.length ≤ a) (r0 : ρ 0 = x) (r3 : ρ 3 = .ptr H0.l.length 0) (r7 : ρ 7 = p) (r8 : ρ 8 = avInt .i64 a)
    (hN : oneB (b.drop a) = none → ∀ (ρ' : Rho) (H2 : Hp) (os2 : List (Nat × AObj)), Loc H0 H2 os2 → hget H2 H0.l.length = some (.cells [avInt .i64 3, avInt .i64 a, avStr []] (t_api_Diag N)) → ρ' 2 = avNilS → ρ' 3 = .ptr H0.l.length 0 → Q .ret ρ' H2)
    (hS : ∀ kd t n, oneB (b.drop a) = some (kd, t, n) → ∀ (ρ' : Rho) (H2 : Hp) (v : AV) (os2 : List (Nat × AObj)), Loc H0 H2 (os2 ++ (H0.l.length, D0 N) :: rs) → Row (t_api_Token N) 3 v ((l ++ [(kd, t, a)]).map tokA) os2 → ρ' 0 = x → ρ' 3 = .ptr H0.l.length 0 → ρ' 7 = v → ρ' 8 = avInt .i64 ((a + n : Nat) : Int) → Q .nrm ρ' H2) :
    wp (lim Γ A) none (K_ref03_Lex_2 N) ρ H' Q := by
  have hx1 : VBytes H' x b := Vw.loc hx hL
  have hone := ref03_one_call h H' hx1 (by omega) a ha
  have hgd := hL.get (List.mem_append_right _ List.mem_cons_self)
  simp only [] at hgd
  have hlt3 := hget_small hgd
  have hlt3' : H0.l.length < H'.l.length + 1 := by omega
  have hnl : ¬ H0.l.length = H'.l.length := by omega
  unfold oneV at hone
  cases ho : oneB (b.drop a) with
  | none =>
    rw [ho] at hone
    simp only [] at hone
    have hL1 := (hL.alloc (.cells [.lit (.int .i64 0), .lit (.string (mkS [])), .lit (.int .i64 0)] (t_api_Token N))).set (.cells [avInt .i64 0, avStr [], avInt .i64 0] (t_api_Token N))
    have hL2 := Loc.setMid (as := (H'.l.length, _) :: os) (bs := rs) hL1 (.cells [avInt .i64 3, avInt .i64 a, avStr []] (t_api_Diag N))
    simp [K_ref03_Lex_2, r0, r3, r7, r8, hone, aload_ptr, astore, setFrom, tokV, hgd, hnl, hlt3, hlt3', -Int.natCast_add]
    refine hN ho _ _ _ hL2 ?_ ?_ ?_
    · exact hL2.get (List.mem_append_right _ List.mem_cons_self)
    · simp
    · simp [r3]
  | some q =>
    obtain ⟨kd, t, n⟩ := q
    rw [ho] at hone
    simp only [] at hone
    have hpos := oneB_pos ho
    have hn0 : ¬ n = 0 := by omega
    rw [List.length_drop] at hpos
    have hL1 := ((hL.alloc (.cells [.lit (.int .i64 0), .lit (.string (mkS [])), .lit (.int .i64 0)] (t_api_Token N))).set (.cells [avInt .i64 kd, avStr t, avInt .i64 (0 : Nat)] (t_api_Token N))).set (.cells [avInt .i64 kd, avStr t, avInt .i64 a] (t_api_Token N))
    have hL2 := hL1.perm (os' := os ++ (H'.l.length, .cells [avInt .i64 kd, avStr t, avInt .i64 a] (t_api_Token N)) :: (H0.l.length, D0 N) :: rs) List.perm_middle.symm
    obtain ⟨q0, v, H2, os', q1, q2, q3⟩ := hp.push (e' := t_api_Token N) (bytes := 32) (y := tokA (kd, t, a)) hL2 (by simp [roomMax]; omega) (tokA_good _)
    have hll : (hset (hset (halloc H' (.cells [.lit (.int .i64 0), .lit (.string (mkS [])), .lit (.int .i64 0)] (t_api_Token N))) H'.l.length (some (.cells [avInt .i64 kd, avStr t, avInt .i64 (0 : Nat)] (t_api_Token N)))) H'.l.length (some (.cells [avInt .i64 kd, avStr t, avInt .i64 a] (t_api_Token N)))).l.length = H'.l.length + 1 := by simp
    rw [hll] at q0
    simp only [tokA, tokV, Int.natCast_zero] at q0 q1
    have hw : IntKind.wrap .i64 ((a : Int) + (n : Int)) = ((a + n : Nat) : Int) := by rw [wrap64 (by omega) (by omega)]; omega
    simp [K_ref03_Lex_2, r0, r3, r7, r8, hone, aload_ptr, astore, setFrom, tokV, hn0, afaddr, q0, q1, hw, -Int.natCast_add]
    refine hS kd t n ho _ _ v os' (q3.sub (List.Sublist.append (List.Sublist.refl _) ((List.Sublist.refl _).cons _))) (by simpa [tokA, tokV] using q2) ?_ ?_ ?_ ?_
    · simp [r0]
    · simp [r3]
    · simp
    · simp
theorem ref03_Lex_call (h : Ref03A Γ A N) {x : AV} {b : List UInt8} (H : Hp) (hx : VBytes H x b) (hl : b.length < 2 ^ 36) :
    ∃ u, (lim Γ A).call (f_ref03_Lex N) [x] H = some (.tup [u, diagV (lexR b).2.1 (lexR b).2.2], none) ∧ Fzr 3 u ((lexR b).1.map tokA) := by
  obtain ⟨R, hR⟩ : ∃ R : AV × Option Hp → Prop, R = fun r => ∃ u, r = (.tup [u, diagV (lexR b).2.1 (lexR b).2.2], none) ∧ Fzr 3 u ((lexR b).1.map tokA) := ⟨_, rfl⟩
  have key : ∃ r, (lim Γ A).call (f_ref03_Lex N) [x] H = some r ∧ R r := by
    apply h.lex.callP (by rfl)
    have hlen := Vw.len hx
    rw [List.length_map] at hlen
    have fail : ∀ (e p : Nat) (H' : Hp) (os : List (Nat × AObj)), Loc H H' os → lexR b = ([], e, p) → R (settleZ true H (.tup [avNilS, diagV e p]) H') := by
      intro e p H' os hL hr
      rw [settleZ_frz (u := .tup [avNilS, diagV e p]) hL.keeps (by rw [frz_tup, mapM_cons', mapM_cons', frz_diag]; simp [frz]), hR]
      exact ⟨_, by rw [hr], .inl ⟨rfl, by rw [hr]; rfl⟩⟩
    by_cases hlong : 1048576 < b.length
    · have hlong' : (1048576 : Int) < b.length := by omega
      simp [C_ref03_Lex, hlen, hlong', aload_ptr, astore, setFrom]
      exact fail 6 0 _ _ (((Loc.start H).alloc _).set _) (by simp [lexR, hlong])
    · have hlong' : ¬ (1048576 : Int) < b.length := by omega
      have hL0 : Loc H (halloc { l := H.l, d := none } (D0 N)) [(H.l.length, D0 N)] := (Loc.start H).alloc _
      have hx0 := Vw.loc hx hL0
      obtain ⟨p1, p2, hh, os1, os2r, e1, hp1, hp2, hA⟩ := ref01_Signs_call h.ref01 x b _ hx0 (by omega)
      have hLG := hA.loc hL0
      obtain ⟨G, hG⟩ : ∃ G, hh.getD (halloc { l := H.l, d := none } (D0 N)) = G := ⟨_, rfl⟩
      rw [hG] at hLG
      have hst0 : stopOf b ≤ b.length := by have := rstop_le b.length 0 b; unfold stopOf; omega
      have hgG := hLG.get (List.mem_append_right _ List.mem_cons_self)
      simp only [] at hgG
      have hltG := hget_small hgG
      by_cases hst : stopOf b = b.length
      · have hst' : ¬ (stopOf b : Int) < b.length := by omega
        simp [C_ref03_Lex, hlen, hlong', e1, bindH_opt, hG, hst', -Int.natCast_add]
        have hL1 := (hLG.alloc (.arr 3 [] (t_api_Token N))).perm (os' := [(G.l.length, .arr 3 [] (t_api_Token N))] ++ (H.l.length, D0 N) :: (os1 ++ os2r)) (by
          refine List.Perm.cons _ ?_
          exact List.perm_append_comm)
        refine wp_round (fun k ρ H' => ∃ (at' : Nat) (l : List Tok) (p : AV) (os : List (Nat × AObj)), ρ 0 = x ∧ ρ 3 = .ptr H.l.length 0 ∧ ρ 7 = p ∧ ρ 8 = avInt .i64 at' ∧ at' ≤ b.length ∧ l.length ≤ at' ∧ Row (t_api_Token N) 3 p (l.map tokA) os ∧
            Loc H H' (os ++ (H.l.length, D0 N) :: (os1 ++ os2r)) ∧ tokS b 0 = (l ++ (tokS b at').1, (tokS b at').2) ∧ k = b.length - at') (n := b.length) ?_ ?_
        · refine ⟨0, [], _, _, ?_, ?_, rfl, ?_, by omega, by simp, ?_, hL1, by simp, rfl⟩
          · simp
          · simp
          · simp
          · simpa using Row.mk (t_api_Token N) 3 G.l.length []
        · rintro k ρ H' ⟨at', l, p, os, r0, r3, r7, r8, hat, hll, hp, hL, ht, rfl⟩
          have hgd := hL.get (List.mem_append_right _ List.mem_cons_self)
          simp only [] at hgd
          by_cases hlt : at' < b.length
          · have hlt' : (at' : Int) < b.length := by omega
            have hx1 : VBytes H' x b := Vw.loc hx hL
            obtain ⟨q, hq1, hq2⟩ := VBytes.at' hx1 (k := .i64) (i := (at' : Int)) (by omega) (by simpa using hlt)
            simp only [Int.toNat_natCast] at hq1 hq2
            have hw : IntKind.wrap .i64 ((at' : Int) + 1) = ((at' + 1 : Nat) : Int) := by rw [wrap64 (by omega) (by omega)]; omega
            have hsb := tokS_blank hlt
            have hst2 := tokS_tok hlt
            have hd : b.drop at' = b[at'] :: b.drop (at' + 1) := List.drop_eq_getElem_cons hlt
            obtain ⟨c, hc⟩ : ∃ c, b[at'] = c := ⟨_, rfl⟩
            rw [hc] at hq2 hsb hst2 hd
            have go : isBlank c = true → ∃ m, m < b.length - at' ∧ ∃ i : Nat, ((at' + 1 : Nat) : Int) = (i : Int) ∧ i ≤ b.length ∧ ∃ l' : List Tok, l'.length ≤ i ∧ ∃ os', Row (t_api_Token N) 3 p (l'.map tokA) os' ∧ Loc H H' (os' ++ (H.l.length, D0 N) :: (os1 ++ os2r)) ∧ tokS b 0 = (l' ++ (tokS b i).1, (tokS b i).2) ∧ m = b.length - i := by
              intro hbl
              refine ⟨_, ?_, at' + 1, rfl, by omega, l, by omega, os, hp, hL, ?_, rfl⟩
              · omega
              · rw [ht, hsb hbl]
            by_cases g0 : (c.toNat : Int) = 32
            · have hbl := go (by simp [isBlank, show c.toNat = 32 from by omega])
              simp [L_ref03_Lex_1, r0, r3, r7, r8, hlen, hlt', hq1, hq2, g0, hw, -Int.natCast_add]
              exact hbl
            by_cases g1 : (c.toNat : Int) = 9
            · have hbl := go (by simp [isBlank, show c.toNat = 9 from by omega])
              simp [L_ref03_Lex_1, r0, r3, r7, r8, hlen, hlt', hq1, hq2, g0, g1, hw, -Int.natCast_add]
              exact hbl
            by_cases g2 : (c.toNat : Int) = 10
            · have hbl := go (by simp [isBlank, show c.toNat = 10 from by omega])
              simp [L_ref03_Lex_1, r0, r3, r7, r8, hlen, hlt', hq1, hq2, g0, g1, g2, hw, -Int.natCast_add]
              exact hbl
            by_cases g3 : (c.toNat : Int) = 13
            · have hbl := go (by simp [isBlank, show c.toNat = 13 from by omega])
              simp [L_ref03_Lex_1, r0, r3, r7, r8, hlen, hlt', hq1, hq2, g0, g1, g2, g3, hw, -Int.natCast_add]
              exact hbl
            have hnb : isBlank c = false := by
              have e0 : ¬ c.toNat = 32 := by omega
              have e1 : ¬ c.toNat = 9 := by omega
              have e2 : ¬ c.toNat = 10 := by omega
              have e3 : ¬ c.toNat = 13 := by omega
              simp [isBlank, e0, e1, e2, e3]
            have tok : [47, 47].isPrefixOf (b.drop at') = false → ∀ ρ : Rho, ρ 0 = x → ρ 3 = .ptr H.l.length 0 → ρ 7 = p → ρ 8 = avInt .i64 at' → ∀ Q : Post,
                (∀ (ρ' : Rho) (H2 : Hp), R (settleZ true H (.tup [avNilS, diagV 3 at']) H2) → hget H2 H.l.length = some (.cells [avInt .i64 3, avInt .i64 at', avStr []] (t_api_Diag N)) → ρ' 2 = avNilS → ρ' 3 = .ptr H.l.length 0 → Q .ret ρ' H2) →
                (∀ (ρ' : Rho) (H2 : Hp) (i : Nat) (l' : List Tok) (v : AV) (os2 : List (Nat × AObj)), at' < i → i ≤ b.length → l'.length ≤ i → Loc H H2 (os2 ++ (H.l.length, D0 N) :: (os1 ++ os2r)) → Row (t_api_Token N) 3 v (l'.map tokA) os2 → tokS b 0 = (l' ++ (tokS b i).1, (tokS b i).2) → ρ' 0 = x → ρ' 3 = .ptr H.l.length 0 → ρ' 7 = v → ρ' 8 = avInt .i64 (i : Int) → Q .nrm ρ' H2) →
                wp (lim Γ A) none (K_ref03_Lex_2 N) ρ H' Q := by
              intro hnp ρ r0 r3 r7 r8 Q hN hS
              have hto := hst2 hnb hnp
              refine lex_tok h.toRef03O hx (by omega) hlt hL hp hll r0 r3 r7 r8 ?_ ?_
              · intro ho ρ' H2 os2 hL2 hg2 e2 e3
                rw [ho] at hto
                refine hN ρ' H2 (fail 3 at' H2 os2 hL2 ?_) hg2 e2 e3
                have ht2 : tokR (blankB b) (b.drop (blankB b)) = (l, some at') := by
                  have := ht
                  rw [hto] at this
                  unfold tokS at this
                  simpa using this
                unfold lexR
                rw [if_neg hlong, if_neg (by simpa using hst), ht2]
              · intro kd t n ho ρ' H2 v os2 hL2 hr2 e0 e3 e7 e8
                rw [ho] at hto
                have hpos := oneB_pos ho
                rw [List.length_drop] at hpos
                refine hS ρ' H2 (at' + n) (l ++ [(kd, t, at')]) v os2 (by omega) (by omega) (by simp; omega) hL2 hr2 ?_ e0 e3 e7 e8
                rw [ht, hto]
                simp
            by_cases g47 : (c.toNat : Int) = 47
            · by_cases hl2 : at' + 1 < b.length
              · have hl2' : ((at' + 1 : Nat) : Int) < b.length := by omega
                obtain ⟨q', hq3, hq4⟩ := VBytes.at' hx1 (k := .i64) (i := ((at' + 1 : Nat) : Int)) (by omega) (by rw [Int.toNat_natCast]; exact hl2)
                simp only [Int.toNat_natCast] at hq3 hq4
                have hd2 : b.drop (at' + 1) = b[at' + 1] :: b.drop (at' + 2) := List.drop_eq_getElem_cons hl2
                have hnote := tokS_note hl2
                rw [hc] at hnote
                generalize b[at' + 1] = d at *
                have ec : c = 47 := UInt8.toNat_inj.1 (by show c.toNat = 47; omega)
                by_cases d47 : (d.toNat : Int) = 47
                · have ed : d = 47 := UInt8.toNat_inj.1 (by show d.toNat = 47; omega)
                  have hnt := hnote ec ed
                  have hrl := runB_le notLine (b.drop at')
                  rw [List.length_drop] at hrl
                  have hrp : 1 ≤ runB notLine (b.drop at') := by rw [hd, ec]; exact runB_pos (by decide)
                  simp [L_ref03_Lex_1, r0, r3, r7, r8, hlen, hlt', hq1, hq2, g0, g1, g2, g3, g47, hw, hl2', hq3, hq4, d47, -Int.natCast_add]
                  refine note_loop hx1 hl (a := at') (p3 := .ptr H.l.length 0) (p7 := p) ?_ ?_ ?_ ?_ hat ?_
                  · simp [r0]
                  · simp [r3]
                  · simp [r7]
                  · simp [r8]
                  · intro ρ' e0 e3 e7 e8
                    simp [K_ref03_Lex_1, e0, e3, e7, e8, -Int.natCast_add]
                    refine ⟨_, ?_, at' + runB notLine (b.drop at'), rfl, by omega, l, by omega, os, hp, hL, ?_, rfl⟩
                    · omega
                    · rw [ht, hnt]
                · have hnp : [47, 47].isPrefixOf (b.drop at') = false := by
                    rw [hd, hd2]
                    have : d ≠ 47 := by intro e; rw [e] at d47; exact d47 rfl
                    simp [List.isPrefixOf]
                    intro _ e
                    exact this e.symm
                  simp [L_ref03_Lex_1, r0, r3, r7, r8, hlen, hlt', hq1, hq2, g0, g1, g2, g3, g47, hw, hl2', hq3, hq4, d47, -Int.natCast_add]
                  refine tok hnp _ ?_ ?_ ?_ ?_ _ ?_ ?_
                  · simp [r0]
                  · simp [r3]
                  · simp [r7]
                  · simp [r8]
                  · intro ρ' H2 hr hg e2 e3
                    simp [e2, e3, aload_ptr, hg]
                    exact hr
                  · intro ρ' H2 i l' v os2 hi1 hi2 hi3 hL2 hr2 ht2 e0 e3 e7 e8
                    simp [e0, e3, e7, e8, -Int.natCast_add]
                    exact ⟨_, by omega, i, rfl, hi2, l', hi3, os2, hr2, hL2, ht2, rfl⟩
              · have hl2' : ¬ ((at' + 1 : Nat) : Int) < b.length := by omega
                have hnp : [47, 47].isPrefixOf (b.drop at') = false := by
                  rw [hd, List.drop_of_length_le (by omega)]
                  simp [List.isPrefixOf]
                simp [L_ref03_Lex_1, r0, r3, r7, r8, hlen, hlt', hq1, hq2, g0, g1, g2, g3, g47, hw, hl2', -Int.natCast_add]
                refine tok hnp _ ?_ ?_ ?_ ?_ _ ?_ ?_
                · simp [r0]
                · simp [r3]
                · simp [r7]
                · simp [r8]
                · intro ρ' H2 hr hg e2 e3
                  simp [e2, e3, aload_ptr, hg]
                  exact hr
                · intro ρ' H2 i l' v os2 hi1 hi2 hi3 hL2 hr2 ht2 e0 e3 e7 e8
                  simp [e0, e3, e7, e8, -Int.natCast_add]
                  exact ⟨_, by omega, i, rfl, hi2, l', hi3, os2, hr2, hL2, ht2, rfl⟩
            · have hnp : [47, 47].isPrefixOf (b.drop at') = false := by
                rw [hd]
                have : c ≠ 47 := by intro e; rw [e] at g47; exact g47 rfl
                simp [List.isPrefixOf]
                intro e
                exact absurd e.symm this
              simp [L_ref03_Lex_1, r0, r3, r7, r8, hlen, hlt', hq1, hq2, g0, g1, g2, g3, g47, -Int.natCast_add]
              refine tok hnp _ ?_ ?_ ?_ ?_ _ ?_ ?_
              · simp [r0]
              · simp [r3]
              · simp [r7]
              · simp [r8]
              · intro ρ' H2 hr hg e2 e3
                simp [e2, e3, aload_ptr, hg]
                exact hr
              · intro ρ' H2 i l' v os2 hi1 hi2 hi3 hL2 hr2 ht2 e0 e3 e7 e8
                simp [e0, e3, e7, e8, -Int.natCast_add]
                exact ⟨_, by omega, i, rfl, hi2, l', hi3, os2, hr2, hL2, ht2, rfl⟩
          · have hlt' : ¬ (at' : Int) < b.length := by omega
            have hab : at' = b.length := by omega
            rw [tokS_end (at' := at') (by omega)] at ht
            obtain ⟨q0, v, H2, os', q1, q2, q3⟩ := hp.push (e' := t_api_Token N) (bytes := 32) (y := tokA (0, [], at')) hL (by simp [roomMax]; omega) (tokA_good _)
            have hgd2 := q3.get (List.mem_append_right _ List.mem_cons_self)
            simp only [] at hgd2
            simp only [tokA, tokV, Int.natCast_zero] at q0 q1
            have hlt4 := hget_small hgd2
            have fin : R (settleZ true H (.tup [v, diagV 0 0]) (hset H2 H.l.length (some (D0 N)))) := by
              have hL2 := q3.setMid (D0 N)
              obtain ⟨u, f1, f2⟩ := Row.frz (k := 14) q2 hL2 (mapM_self (by
                intro y hy
                have hy2 : y ∈ (l ++ [((0, [], at') : Tok)]).map tokA := by simpa using hy
                obtain ⟨t, _, rfl⟩ := List.mem_map.1 hy2
                exact frz_tok t))
              rw [settleZ_frz (u := .tup [u, diagV 0 0]) hL2.keeps (by rw [frz_tup, mapM_cons', mapM_cons', f1, frz_diag]; simp), hR]
              have hr : lexR b = (l ++ [(0, [], at')], 0, 0) := by
                unfold lexR
                have ht2 : tokR (blankB b) (b.drop (blankB b)) = (l ++ [(0, [], at')], none) := by
                  have := ht
                  unfold tokS at this
                  simpa using this
                rw [if_neg hlong, if_neg (by simpa using hst), ht2]
              exact ⟨u, by rw [hr], by rw [hr]; simpa using f2⟩
            simp [L_ref03_Lex_1, K_ref03_Lex_3, r0, r3, r7, r8, hlen, hlt', aload_ptr, astore, setFrom, hgd, hgd2, hlt4, q0, q1, -Int.natCast_add]
            exact fin
      · have hst' : (stopOf b : Int) < b.length := by omega
        simp [C_ref03_Lex, hlen, hlong', e1, bindH_opt, hG, hst', aload_ptr, astore, setFrom, hgG, hltG]
        exact fail 2 (stopOf b) _ _ (Loc.setMid (as := os1 ++ os2r) (bs := []) hLG _) (by simp [lexR, hlong, hst])
  obtain ⟨r, e, hr⟩ := key
  rw [hR] at hr
  obtain ⟨u, rfl, hu⟩ := hr
  exact ⟨u, e, hu⟩
end
end Go.Proofs.Eng/- The reference of chapter 3, run by the engine: the same tokens. -/
set_option linter.unusedVariables false
set_option linter.unusedSimpArgs false
set_option maxRecDepth 100000
namespace Go.Proofs.Eng
open Go
section
variable {Γ : Sums} {A : Tab} {N : Nat → Nat}
theorem aeq_tok (t : Tok) : aeq (.struct [(0, none, .pint), (1, none, .pstr), (2, none, .pint)]) (tokA t) (tokA t) = some true := by
  simp [tokA, tokV, aeq, aeqs, apart, aprim, eqI, eqSt]
theorem aeq_diag (e p : Nat) : aeq (.struct [(0, none, .pint), (1, none, .pint), (2, none, .pstr)]) (diagV e p) (diagV e p) = some true := by
  simp [diagV, aeq, aeqs, apart, aprim, eqI, eqSt]
theorem ref03_Same_call (h : Has Γ A (f_ref03_Same N) (C_ref03_Same N)) {u v : AV} {l : List Tok} (H : Hp) (hu : Fzr 3 u (l.map tokA)) (hv : Fzr 3 v (l.map tokA)) (hl : l.length < 2 ^ 40) :
    (lim Γ A).call (f_ref03_Same N) [u, v] H = some (avBool true, none) := by
  apply h.call (by rfl)
  have l1 := hu.len
  have l2 := hv.len
  rw [List.length_map] at l1 l2
  simp [C_ref03_Same, l1, l2, -Int.natCast_add]
  refine wp_round (fun k ρ H' => H' = { l := H.l, d := none } ∧ ∃ i : Nat, ρ 0 = u ∧ ρ 1 = v ∧ ρ 12 = avInt .i64 l.length ∧ ρ 13 = avInt .i64 i ∧ i ≤ l.length ∧ k = l.length - i) (n := l.length) ⟨rfl, 0, rfl, rfl, ?_, ?_, by omega, rfl⟩ ?_
  · simp
  · simp
  rintro k ρ H' ⟨rfl, i, r0, r1, r12, r13, hi, rfl⟩
  by_cases hlt : i < l.length
  · have hlt' : (i : Int) < l.length := by omega
    have a1 := hu.iaddr (k := .i64) (i := (i : Int)) (e := tokA l[i]) (by omega) (by simp [hlt]) rfl
    have a2 := hv.iaddr (k := .i64) (i := (i : Int)) (e := tokA l[i]) (by omega) (by simp [hlt]) rfl
    have hld : ∀ t : Tok, aload { l := H.l, d := none } (some 3) (.vp (tokA t).cells) = some (tokA t) := by
      intro t
      simp [tokA, tokV, aload]
    have he := aeq_tok l[i]
    generalize l[i] = t at *
    have hw : IntKind.wrap .i64 ((i : Int) + 1) = ((i + 1 : Nat) : Int) := by rw [wrap64 (by omega) (by omega)]; omega
    simp [L_ref03_Same_1, r0, r1, r12, r13, hlt', a1, a2, hld, he, hw, -Int.natCast_add]
    exact ⟨_, by omega, i + 1, rfl, by omega, rfl⟩
  · have hlt' : ¬ (i : Int) < l.length := by omega
    simp [L_ref03_Same_1, K_ref03_Same_1, r0, r1, r12, r13, hlt']
end
end Go.Proofs.Eng
/- The law LexerReads, run by the engine. -/
set_option linter.unusedVariables false
set_option linter.unusedSimpArgs false
set_option maxRecDepth 100000
namespace Go.Proofs.Eng
open Go
section
variable {Γ : Sums} {A : Tab} {N : Nat → Nat}
abbrev H00' : Hp := { l := [], d := none }
theorem tokF_len : ∀ (k at' : Nat) (s : List UInt8), (tokF k at' s).1.length ≤ k
  | 0, _, _ => by simp [tokF]
  | k + 1, at', s => by
    simp only [tokF]
    split
    · simp
    · split
      · simp
      · exact Nat.succ_le_succ (tokF_len k _ _)
theorem lexR_len (b : List UInt8) : (lexR b).1.length ≤ b.length + 1 := by
  unfold lexR
  split
  · simp
  · split
    · simp
    · have := tokF_len ((b.drop (blankB b)).length + 1) (blankB b) (b.drop (blankB b))
      unfold tokR
      split
      · rename_i l e
        rw [e] at this
        rw [List.length_drop] at this
        simp only at this ⊢
        omega
      · simp
theorem law_LexerReads (hx1 : LexA Γ A N) (hr : Ref03A Γ A N) (hs : Has Γ A (f_ref03_Same N) (C_ref03_Same N)) (h : Has Γ A (f_law03_LexerReads N) (C_law03_LexerReads N)) (hlives : (lim Γ A).call (f_law03_lives N) [] H00' = some (avBool true, none))
    (x : AV) (b : List UInt8) (hx : IsBytes x b) : ∃ r, (lim Γ A).ent (f_law03_LexerReads N) [x] H00' = some r ∧ r.1 = avBool true := by
  apply h.entP (by rfl)
  have hlen := hx.len
  rw [List.length_map] at hlen
  by_cases h500 : 500 < b.length
  · have h500' : (500 : Int) < b.length := by omega
    simp [C_law03_LexerReads, hlives, hlen, h500']
  · have h500' : ¬ (500 : Int) < b.length := by omega
    have hel : ∀ H, asElems H x = some (b.map avByte) := fun H => Vw.elems (IsBytes.v hx)
    have hL : Loc H00' (halloc (hset (halloc H00' (.arr 1 [] (t_uint8 N))) 0 none) (.arr 1 (b.map avByte) (t_uint8 N))) [(1, .arr 1 (b.map avByte) (t_uint8 N))] :=
      (((Loc.start H00').alloc (.arr 1 [] (t_uint8 N))).kill).alloc (.arr 1 (b.map avByte) (t_uint8 N))
    have hrow := Row.mk (t_uint8 N) 1 1 (b.map avByte)
    have hv := hrow.vw (r := []) hL
    have happ : appendOn (halloc H00' (.arr 1 [] (t_uint8 N))) (t_uint8 N) 1 1 (.ra 1 0 0 0) (b.map avByte) = some (.ra 1 1 0 (b.map avByte).length, some (halloc (hset (halloc H00' (.arr 1 [] (t_uint8 N))) 0 none) (.arr 1 (b.map avByte) (t_uint8 N)))) := by
      have : b.length ≤ roomMax := by simp [roomMax]; omega
      simp [appendOn, this]
    obtain ⟨u, e1, f1⟩ := lexer_Lex_call hx1 _ hv (by omega)
    obtain ⟨g, hg⟩ := Classical.axiomOfChoice (fun H => ref03_Lex_call hr H (IsBytes.v hx) (by omega))
    have hl := lexR_len b
    have hsame := fun v (hv : Fzr 3 v ((lexR b).1.map tokA)) H => ref03_Same_call hs H f1 hv (by omega)
    have e2 := fun H => (hg H).1
    have e3 := fun H H' => hsame (g H) (hg H).2 H'
    have ed := aeq_diag (lexR b).2.1 (lexR b).2.2
    rw [List.length_map] at e1
    have hvs : ∀ H, (asElems H x).bind bytesOf = some b := fun H => VBytes.str (IsBytes.v hx)
    simp only [diagV] at e1 e2 ed
    generalize (lexR b).2.1 = er at *
    generalize (lexR b).2.2 = ps at *
    have hfin : ∀ H, hget H 1 = some (.arr 1 (b.map avByte) (t_uint8 N)) → (asElems H (.ra 1 1 0 b.length)).bind bytesOf = some b := by
      intro H hh
      have : asElems H (.ra 1 1 0 b.length) = some (b.map avByte) := by
        simp [asElems, hh]
        rw [List.take_of_length_le (by simp)]
      rw [this]
      exact bytesOf_bytes b
    simp [C_law03_LexerReads, hlives, hlen, h500', hel, happ, e1, e2, e3, aload_ptr, astore, setFrom, ed, hfin, hvs]
end
end Go.Proofs.Eng
