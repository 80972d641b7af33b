/- The functions of package runes, run by the engine. -/
import Derived.Test.YtombplnoeikhoaaEngFrunes
set_option linter.unusedVariables false
set_option linter.unusedSimpArgs false
set_option maxRecDepth 100000
namespace Go.Proofs.Eng
open Go
section
variable {Γ : Sums} {A : Tab} {N : Nat → Nat}

def runeSize (r : Int) : Int := if r < 128 then 1 else if r < 2048 then 2 else if r < 65536 then 3 else 4
def runeSign (r : Int) : Bool := decide (0 ≤ r) && decide (r < 1114112) && (decide (r < 55296) || decide (57343 < r))

theorem runes_size_call (h : Has Γ A (f_runes_size N) (C_runes_size N)) (r : Int) (H : Hp) : (lim Γ A).call (f_runes_size N) [avInt .i32 r] H = some (avInt .i64 (runeSize r), none) := by
  apply h.call (by rfl)
  unfold runeSize
  by_cases h1 : r < 128
  · simp [C_runes_size, h1]
  · by_cases h2 : r < 2048
    · simp [C_runes_size, h1, h2]
    · by_cases h3 : r < 65536
      · simp [C_runes_size, h1, h2, h3]
      · simp [C_runes_size, h1, h2, h3]

theorem runes_sign_call (h : Has Γ A (f_runes_sign N) (C_runes_sign N)) (r : Int) (H : Hp) : (lim Γ A).call (f_runes_sign N) [avInt .i32 r] H = some (avBool (runeSign r), none) := by
  apply h.call (by rfl)
  unfold runeSign
  by_cases h1 : 0 ≤ r <;> by_cases h2 : r < 1114112 <;> by_cases h3 : r < 55296 <;> simp [C_runes_sign, h1, h2, h3]

/-! ### The sign at the head of bytes -/
def lead (b : UInt8) : Nat := if b.toNat < 128 then 0 else if b.toNat < 192 then 1 else if b.toNat < 224 then 2 else if b.toNat < 240 then 3 else 4
def isCont (b : UInt8) : Bool := decide (128 ≤ b.toNat) && decide (b.toNat < 192)
/-- What the bytes behind the first one add. -/
def accB (r : Int) : List UInt8 → Int
  | [] => r
  | b :: l => accB (r * 64 + ((b.toNat % 64 : Nat) : Int)) l
def headR (b0 : UInt8) : Int := ((b0.toNat % 2 ^ (7 - lead b0) : Nat) : Int)
def rfirst : List UInt8 → Int × Int
  | [] => (0, 0)
  | b0 :: l =>
    if b0.toNat < 128 then ((b0.toNat : Int), 1)
    else if lead b0 < 2 ∨ l.length + 1 < lead b0 ∨ 248 ≤ b0.toNat then (0, 0)
    else if ((l.take (lead b0 - 1)).all isCont) = true then
      if runeSign (accB (headR b0) (l.take (lead b0 - 1))) = true ∧ runeSize (accB (headR b0) (l.take (lead b0 - 1))) = lead b0 then (accB (headR b0) (l.take (lead b0 - 1)), (lead b0 : Int)) else (0, 0)
    else (0, 0)

theorem all256 {p : UInt8 → Bool} (h : (List.range 256).all (fun n => p (UInt8.ofNat n)) = true) (b : UInt8) : p b = true := by
  rw [List.all_eq_true] at h
  have := h b.toNat (by simp; exact b.toNat_lt)
  simpa using this

theorem bit_all : (List.range 256).all (fun i => (List.range 4).all fun n => decide (n ≤ lead (UInt8.ofNat i) → 128 ≤ (UInt8.ofNat i).toNat → decide (bAnd .u8 (bShl .u8 ((UInt8.ofNat i).toNat : Int) (n : Int)) 128 = 0) = !decide (n < lead (UInt8.ofNat i)))) = true := by decide +kernel
theorem bit_lead (b : UInt8) (n : Nat) (hn : n < 4) (h : n ≤ lead b) (hb : 128 ≤ b.toNat) : decide (bAnd .u8 (bShl .u8 (b.toNat : Int) (n : Int)) 128 = 0) = !decide (n < lead b) := by
  have := all256 (p := fun b => (List.range 4).all fun n => decide (n ≤ lead b → 128 ≤ b.toNat → decide (bAnd .u8 (bShl .u8 (b.toNat : Int) (n : Int)) 128 = 0) = !decide (n < lead b))) bit_all b
  rw [List.all_eq_true] at this
  have := this n (by simp; exact hn)
  simp only [decide_eq_true_eq] at this
  exact this h hb
theorem lead_le (b : UInt8) : lead b ≤ 4 := by unfold lead; (repeat' split) <;> omega

theorem first_loop1 {x : AV} {b0 : UInt8} {ρ : Rho} {H : Hp} {Q : Post} {p : AV} (hi : aiaddr 1 x (.lit (.int .i64 0)) = some p) (hi2 : aload H none p = some (avByte b0)) (hb : 128 ≤ b0.toNat) (h0 : ρ 0 = x) (h4 : ρ 4 = avInt .i64 0)
    (hQ : ∀ ρ' : Rho, ρ' 0 = x → ρ' 4 = avInt .i64 (lead b0) → Q (.exit 0) ρ' H) : wp (lim Γ A) none (.loop (L_runes_first_1 N)) ρ H Q := by
  refine wp_round (fun k ρ H' => H' = H ∧ ∃ n : Nat, ρ 0 = x ∧ ρ 4 = avInt .i64 n ∧ n ≤ lead b0 ∧ k = 4 - n) (n := 4) ⟨rfl, 0, h0, h4, by omega, rfl⟩ ?_
  rintro k ρ H' ⟨rfl, n, h0, h4, hn, rfl⟩
  have hl4 := lead_le b0
  by_cases hn4 : n < 4
  · have hbl := bit_lead b0 n hn4 hn (by omega)
    have hn5 : (n : Int) < 4 := by omega
    by_cases hnl : n < lead b0
    · simp only [hnl, decide_true, Bool.not_true, decide_eq_false_iff_not] at hbl
      have hw : IntKind.wrap .i64 ((n : Int) + 1) = ((n + 1 : Nat) : Int) := by rw [wrap64 (by omega) (by omega)]; omega
      simp [L_runes_first_1, h0, h4, hn5, hi, hi2, avByte, hbl, hw, -Int.natCast_add]
      exact ⟨4 - (n + 1), by omega, n + 1, rfl, by omega, rfl⟩
    · have hnl2 : n = lead b0 := by omega
      simp only [hnl, decide_false, Bool.not_false, decide_eq_true_eq] at hbl
      simp [L_runes_first_1, h0, h4, hn5, hi, hi2, avByte, hbl]
      apply hQ <;> simp [h0, h4, hnl2]
  · have hn5 : ¬ (n : Int) < 4 := by omega
    have hnl2 : n = lead b0 := by omega
    simp [L_runes_first_1, h0, h4, hn5]
    apply hQ <;> simp [h0, h4, hnl2]

theorem cont_and (b : UInt8) : decide (bAnd .u8 (b.toNat : Int) 192 = 128) = isCont b := by
  have := all256 (p := fun b => decide (decide (bAnd .u8 (b.toNat : Int) 192 = 128) = isCont b)) (by decide +kernel) b
  simpa only [decide_eq_true_eq] using this
theorem low6_and (b : UInt8) : IntKind.wrap .i32 (bAnd .u8 (b.toNat : Int) 63) = ((b.toNat % 64 : Nat) : Int) := by
  have := all256 (p := fun b => decide (IntKind.wrap .i32 (bAnd .u8 (b.toNat : Int) 63) = ((b.toNat % 64 : Nat) : Int))) (by decide +kernel) b
  simpa only [decide_eq_true_eq] using this
theorem wrap32 {a : Int} (h1 : -2147483648 ≤ a) (h2 : a ≤ 2147483647) : IntKind.wrap .i32 a = a := by
  simp only [IntKind.wrap, IntKind.bits, IntKind.signed]
  simp
  omega
theorem or_add {r y : Nat} (hr : r < 2 ^ 24) (hy : y < 64) : bOr .i32 (bShl .i32 (r : Int) 6) (y : Int) = ((r * 64 + y : Nat) : Int) := by
  have h6 : bShl .i32 (r : Int) 6 = (r : Int) * 2 ^ 6 := by
    show IntKind.wrap .i32 ((r : Int) * 2 ^ 6) = _
    rw [wrap32 (by omega) (by omega)]
  rw [h6]
  have h1 : (BitVec.ofInt 32 ((r : Int) * 2 ^ 6) ||| BitVec.ofInt 32 (y : Int)).toNat = r * 64 + y := by
    rw [BitVec.toNat_or]
    have e1 : (BitVec.ofInt 32 ((r : Int) * 2 ^ 6)).toNat = r <<< 6 := by
      rw [BitVec.toNat_ofInt, Nat.shiftLeft_eq]; omega
    have e2 : (BitVec.ofInt 32 (y : Int)).toNat = y := by
      rw [BitVec.toNat_ofInt]; omega
    rw [e1, e2, ← Nat.shiftLeft_add_eq_or_of_lt (by omega : y < 2 ^ 6), Nat.shiftLeft_eq]
  show IntKind.wrap .i32 (BitVec.ofInt 32 ((r : Int) * 2 ^ 6) ||| BitVec.ofInt 32 (y : Int)).toNat = _
  rw [h1, wrap32 (by omega) (by omega)]

theorem accB_snoc (r : Int) (l : List UInt8) (b : UInt8) : accB r (l ++ [b]) = accB r l * 64 + ((b.toNat % 64 : Nat) : Int) := by
  induction l generalizing r with
  | nil => rfl
  | cons a l ih => simp only [List.cons_append, accB]; rw [ih]
theorem accB_nat (r : Nat) (l : List UInt8) : ∃ m : Nat, accB r l = m ∧ m < (r + 1) * 64 ^ l.length := by
  induction l generalizing r with
  | nil => exact ⟨r, rfl, by simp⟩
  | cons a l ih =>
    obtain ⟨m, e, h⟩ := ih (r * 64 + a.toNat % 64)
    refine ⟨m, ?_, ?_⟩
    · simp only [accB]; rw [← e]; congr 1
    · refine Nat.lt_of_lt_of_le h ?_
      rw [List.length_cons, Nat.pow_succ, Nat.mul_comm (64 ^ l.length) 64, ← Nat.mul_assoc]
      apply Nat.mul_le_mul_right
      have : a.toNat % 64 < 64 := Nat.mod_lt _ (by omega)
      omega

/-- The bytes behind the first one. -/
theorem first_loop2 {y : AV} {m : List UInt8} {r0 : Nat} {n : AV} {ρ : Rho} {H : Hp} {Q : Post} (hy : VBytes H y m) (hm : m.length ≤ 3) (hr : r0 < 32) (h4 : ρ 4 = n) (h5 : ρ 5 = avInt .i32 r0) (h55 : ρ 55 = y) (h56 : ρ 56 = avInt .i64 m.length) (h57 : ρ 57 = avInt .i64 0)
    (hQ : ∀ ρ' : Rho, ρ' 4 = n → ρ' 5 = avInt .i32 (accB r0 m) → m.all isCont = true → Q (.exit 2) ρ' H) (hR : ∀ ρ' : Rho, ρ' 2 = avInt .i32 0 → ρ' 3 = avInt .i64 0 → m.all isCont = false → Q .ret ρ' H) : wp (lim Γ A) none (.loop (L_runes_first_2 N)) ρ H Q := by
  refine wp_round (fun k ρ H' => H' = H ∧ ∃ i : Nat, ρ 4 = n ∧ ρ 5 = avInt .i32 (accB r0 (m.take i)) ∧ ρ 55 = y ∧ ρ 56 = avInt .i64 m.length ∧ ρ 57 = avInt .i64 i ∧ i ≤ m.length ∧ (m.take i).all isCont = true ∧ k = m.length - i) (n := m.length)
    ⟨rfl, 0, h4, by simpa [accB] using h5, h55, h56, h57, by omega, by simp, by simp⟩ ?_
  rintro k ρ H' ⟨rfl, i, h4, h5, h55, h56, h57, hi, hc, rfl⟩
  by_cases hlt : i < m.length
  · have hlt' : (i : Int) < m.length := by omega
    obtain ⟨p, ha, ha2⟩ := VBytes.at' hy (k := .i64) (i := (i : Int)) (by omega) (by simpa using hlt)
    simp only [Int.toNat_natCast] at ha ha2
    have htk : m.take (i + 1) = m.take i ++ [m[i]] := List.take_succ_eq_append_getElem hlt
    have hca := cont_and m[i]
    by_cases hct : isCont m[i] = true
    · rw [hct, decide_eq_true_eq] at hca
      obtain ⟨q, hq, hq2⟩ := accB_nat r0 (m.take i)
      have hq3 : q < 2 ^ 24 := by
        refine Nat.lt_of_lt_of_le hq2 ?_
        have : (m.take i).length ≤ 2 := by simp; omega
        calc (r0 + 1) * 64 ^ (m.take i).length ≤ 32 * 64 ^ 2 := Nat.mul_le_mul (by omega) (Nat.pow_le_pow_right (by omega) this)
          _ ≤ 2 ^ 24 := by omega
      have ho := or_add hq3 (Nat.mod_lt m[i].toNat (by omega : 0 < 64))
      have hw : IntKind.wrap .i64 ((i : Int) + 1) = ((i + 1 : Nat) : Int) := by rw [wrap64 (by omega) (by omega)]; omega
      rw [hq] at h5
      simp [L_runes_first_2, h4, h5, h55, h56, h57, hlt', ha, ha2, avByte, hca, low6_and, ho, hw, -Int.natCast_emod, -Int.natCast_add, -Int.natCast_mul]
      refine ⟨m.length - (i + 1), by omega, i + 1, ?_, rfl, by omega, ?_, rfl⟩
      · rw [htk, accB_snoc, hq]; simp
      · rw [htk]
        intro z hz
        rcases List.mem_append.1 hz with hz | hz
        · exact List.all_eq_true.1 hc z hz
        · simp only [List.mem_singleton] at hz; subst hz; exact hct
    · rw [Bool.not_eq_true] at hct
      rw [hct, decide_eq_false_iff_not] at hca
      simp [L_runes_first_2, h4, h5, h55, h56, h57, hlt', ha, ha2, avByte, hca]
      apply hR
      · simp
      · simp
      · rw [List.all_eq_false]
        exact ⟨m[i], List.getElem_mem _, by simp [hct]⟩
  · have hlt' : ¬ (i : Int) < m.length := by omega
    have htk : m.take i = m := List.take_of_length_le (by omega)
    simp [L_runes_first_2, h4, h5, h55, h56, h57, hlt']
    rw [htk] at h5 hc
    apply hQ
    · simp [h4]
    · simp [h5]
    · exact hc

theorem head_and (b : UInt8) (h : 2 ≤ lead b) (h2 : b.toNat < 248) : IntKind.wrap .i32 (bAnd .u8 (b.toNat : Int) (bShr .u8 127 (lead b : Int))) = headR b := by
  have := all256 (p := fun b => decide (2 ≤ lead b → b.toNat < 248 → IntKind.wrap .i32 (bAnd .u8 (b.toNat : Int) (bShr .u8 127 (lead b : Int))) = headR b)) (by decide +kernel) b
  simp only [decide_eq_true_eq] at this
  exact this h h2

theorem runes_first_call (hsz : Has Γ A (f_runes_size N) (C_runes_size N)) (hsg : Has Γ A (f_runes_sign N) (C_runes_sign N)) (h : Has Γ A (f_runes_first N) (C_runes_first N)) (x : AV) (b : List UInt8) (H : Hp) (hx : VBytes H x b) :
    (lim Γ A).call (f_runes_first N) [x] H = some (.tup [avInt .i32 (rfirst b).1, avInt .i64 (rfirst b).2], none) := by
  apply h.call (by rfl)
  replace hx : VBytes { l := H.l, d := none } x b := Vw.dd hx none
  have hlen := hx.len
  cases b with
  | nil => 
    simp [C_runes_first, hlen, rfirst]
  | cons b0 l =>
    obtain ⟨p, hi, hi2⟩ := VBytes.at' hx (k := .i64) (i := 0) (by omega) (by simp)
    simp only [Int.reduceToNat, List.getElem_cons_zero] at hi hi2
    simp only [List.map_cons, List.length_cons, List.length_map] at hlen
    have hz : ¬ ((l.length : Int) + 1 = 0) := by omega
    by_cases h128 : b0.toNat < 128
    · have h1 : (b0.toNat : Int) < 128 := by omega
      have hw : IntKind.wrap .i32 (b0.toNat : Int) = b0.toNat := wrap32 (by omega) (by omega)
      simp [C_runes_first, hlen, rfirst, hz, hi, hi2, avByte, h1, h128, hw]
    · have h1 : ¬ (b0.toNat : Int) < 128 := by omega
      simp [C_runes_first, hlen, hz, hi, hi2, avByte, h1]
      refine first_loop1 hi hi2 (by omega) (by simp) (by simp) ?_
      intro ρ h0 h4
      simp only [blockP_exit, if_true, seqP_nrm]
      by_cases hl2 : lead b0 < 2
      · have hl3 : (lead b0 : Int) < 2 := by omega
        simp [K_runes_first_1, h0, h4, hl3, rfirst, h128, hl2]
      · have hl3 : ¬ (lead b0 : Int) < 2 := by omega
        by_cases hl5 : l.length + 1 < lead b0
        · have hl6 : (l.length : Int) + 1 < lead b0 := by omega
          simp [K_runes_first_1, h0, h4, hl3, rfirst, h128, hl2, hlen, hl5, hl6]
        · have hl6 : ¬ (l.length : Int) + 1 < lead b0 := by omega
          by_cases h248 : 248 ≤ b0.toNat
          · have h249 : 248 ≤ (b0.toNat : Int) := by omega
            simp [K_runes_first_1, h0, h4, hl3, rfirst, h128, hl2, hlen, hl5, hl6, hi, hi2, avByte, h248, h249]
          · have h249 : ¬ 248 ≤ (b0.toNat : Int) := by omega
            have hh := head_and b0 (by omega) (by omega)
            have h47 := lead_le b0
            obtain ⟨y, hy1, hy2⟩ := Vw.cut hx (k := .i64) (k' := .i64) (i := 1) (j := (lead b0 : Int)) (by omega) (by omega) (by simp; omega)
            simp only [List.map_cons, Int.reduceToNat, List.drop_succ_cons, List.drop_zero, Int.toNat_natCast, ← List.map_take] at hy2
            have hyl := hy2.len
            have hml : (l.take (lead b0 - 1)).length = lead b0 - 1 := by simp; omega
            rw [List.length_map, hml] at hyl
            have hf : rfirst (b0 :: l) = (if ((l.take (lead b0 - 1)).all isCont) = true then
                if runeSign (accB (headR b0) (l.take (lead b0 - 1))) = true ∧ runeSize (accB (headR b0) (l.take (lead b0 - 1))) = lead b0 then (accB (headR b0) (l.take (lead b0 - 1)), (lead b0 : Int)) else (0, 0)
              else (0, 0)) := by
              simp only [rfirst, h128, if_false, hl2, hl5, h248, or_self]
            simp [K_runes_first_1, h0, h4, hl3, hlen, hl6, hi, hi2, avByte, h249, hy1, hyl, hh]
            have hhr : headR b0 = ((b0.toNat % 2 ^ (7 - lead b0) : Nat) : Int) := rfl
            have hr32 : b0.toNat % 2 ^ (7 - lead b0) < 32 := by
              have : b0.toNat % 2 ^ (7 - lead b0) < 2 ^ (7 - lead b0) := Nat.mod_lt _ (Nat.two_pow_pos _)
              refine Nat.lt_of_lt_of_le this ?_
              exact Nat.pow_le_pow_right (by omega) (by omega : 7 - lead b0 ≤ 5)
            refine first_loop2 (m := l.take (lead b0 - 1)) (n := avInt .i64 (lead b0)) hy2 (by rw [hml]; omega) hr32 (by simp [h4]) (by simp [hhr]) (by simp) (by simp [hml]) (by simp) ?_ ?_
            · intro ρ h4 h5 hall
              simp only [blockP_exit, if_true, seqP_nrm]
              rw [hf, if_pos hall]
              rw [← hhr] at h5
              have e1 := runes_sign_call hsg (accB (headR b0) (l.take (lead b0 - 1))) { l := H.l, d := none }
              have e2 := runes_size_call hsz (accB (headR b0) (l.take (lead b0 - 1))) { l := H.l, d := none }
              by_cases hs1 : runeSign (accB (headR b0) (l.take (lead b0 - 1))) = true
              · by_cases hs2 : runeSize (accB (headR b0) (l.take (lead b0 - 1))) = lead b0
                · simp [K_runes_first_2, h4, h5, e1, e2, hs1, hs2]
                · simp [K_runes_first_2, h4, h5, e1, e2, hs1, hs2]
              · simp [K_runes_first_2, h4, h5, e1, hs1]
            · intro ρ h2 h3 hall
              rw [hf, hall]
              simp [h2, h3]

/-! ### All signs -/
/-- The signs of bytes, with their places. -/
def rsigns : Nat → Nat → List UInt8 → List (Nat × Int)
  | 0, _, _ => []
  | k + 1, at', b => if (rfirst b).2 = 0 then [] else (at', (rfirst b).1) :: rsigns k (at' + (rfirst b).2.toNat) (b.drop (rfirst b).2.toNat)
def allOf (b : List UInt8) : List (Nat × Int) := rsigns b.length 0 b
def encS (p : Nat × Int) : List AV := [avInt .i64 p.1, avInt .i32 p.2]

theorem rfirst_bound (b : List UInt8) : (rfirst b).2 = 0 ∨ (1 ≤ (rfirst b).2 ∧ (rfirst b).2 ≤ 4 ∧ (rfirst b).2 ≤ b.length) := by
  cases b with
  | nil => exact .inl rfl
  | cons b0 l =>
    have := lead_le b0
    simp only [rfirst]
    split
    · right; simp; omega
    · split
      · left; rfl
      · split
        · split
          · right; rename_i h _ _; simp; omega
          · left; rfl
        · left; rfl
theorem rsigns_fuel : ∀ (k j at' : Nat) (b : List UInt8), b.length ≤ k → b.length ≤ j → rsigns k at' b = rsigns j at' b
  | 0, 0, _, _, _, _ => rfl
  | 0, j + 1, at', b, h, _ => by
    have : b = [] := by cases b with | nil => rfl | cons => simp at h
    subst this; simp [rsigns, rfirst]
  | k + 1, 0, at', b, _, h => by
    have : b = [] := by cases b with | nil => rfl | cons => simp at h
    subst this; simp [rsigns, rfirst]
  | k + 1, j + 1, at', b, h1, h2 => by
    simp only [rsigns]
    rcases rfirst_bound b with h | ⟨h3, h4, h5⟩
    · simp [h]
    · have hne : ¬ (rfirst b).2 = 0 := by omega
      rw [if_neg hne, if_neg hne, rsigns_fuel k j _ _ (by simp; omega) (by simp; omega)]
theorem rsigns_step {at' : Nat} {b : List UInt8} (h : (rfirst b).2 ≠ 0) : rsigns b.length at' b = (at', (rfirst b).1) :: rsigns (b.drop (rfirst b).2.toNat).length (at' + (rfirst b).2.toNat) (b.drop (rfirst b).2.toNat) := by
  rcases rfirst_bound b with h' | ⟨h3, h4, h5⟩
  · exact absurd h' h
  · obtain ⟨k, hk⟩ : ∃ k, b.length = k + 1 := ⟨b.length - 1, by omega⟩
    rw [hk]
    simp only [rsigns]
    rw [if_neg h, rsigns_fuel k _ _ _ (by simp; omega) (Nat.le_refl _)]
theorem rsigns_stop {at' : Nat} {b : List UInt8} (h : (rfirst b).2 = 0) (k : Nat) : rsigns k at' b = [] := by
  cases k with
  | zero => rfl
  | succ k => simp [rsigns, h]

structure RunesAll (Γ : Sums) (A : Tab) (N : Nat → Nat) : Prop where
  size : Has Γ A (f_runes_size N) (C_runes_size N)
  sign : Has Γ A (f_runes_sign N) (C_runes_sign N)
  first : Has Γ A (f_runes_first N) (C_runes_first N)
  all : Has Γ A (f_runes_All N) (C_runes_All N)
  all1 : Has Γ A (f_runes_All_1 N) (C_runes_All_1 N)

theorem runes_All_call (h : RunesAll Γ A N) {x : AV} {b : List UInt8} (H : Hp) (hx : VBytes H x b) : (lim Γ A).call (f_runes_All N) [x] H = some (.fn (f_runes_All_1 N) [] [.vp [x]], none) := by
  apply h.all.call (by rfl)
  have hg := Vw.good hx
  simp [C_runes_All, hg.1]
  apply settleZ_frz
  · simp [keeps]
  · rw [frz_fn, mapM_cons', frz_ptr (cs := x.cells) (t := t_sl_uint8 N) (by simp) (by simp) (by simp), hg.2, List.drop_zero, mapM_cons', Vw.frz hx (bytes_lits b)]
    rfl

theorem runes_All_gen (h : RunesAll Γ A N) {x : AV} {b : List UInt8} (hb : b.length < 2 ^ 62) : GenW (lim Γ A) (f_runes_All_1 N) [] [.vp [x]] (fun H => VBytes H x b) ((allOf b).map encS) := by
  intro l H K Kx hl hV h0 hstep
  have hlen := Vw.len (hV _ _ h0)
  rw [List.length_map] at hlen
  have key : ∃ r, (lim Γ A).ent (f_runes_All_1 N) [.yld l, .vp [x]] H = some r ∧ ∃ H2, (r.2.getD H).l = H2.l ∧ (r.2.getD H).d = dminO H.d H2.d ∧ (K (allOf b).length H2 ∨ Kx H2) := by
    apply h.all1.entP (by rfl)
    simp [C_runes_All_1]
    -- what is owed at the end
    have fin : ∀ H', ((∃ m, H'.d = some m ∧ m ≤ l) ∨ H' = { l := H.l, d := none }) → (K (allOf b).length H' ∨ Kx H') → ∃ H2, ((settle H (.tup []) H').2.getD H).l = H2.l ∧ ((settle H (.tup []) H').2.getD H).d = dminO H.d H2.d ∧ (K (allOf b).length H2 ∨ Kx H2) := by
      rintro H' (⟨m, hm, hml⟩ | rfl) hk
      · refine ⟨H', ?_, ?_, hk⟩ <;> · have : keeps H H' = false := by simp [keeps, hm]; omega
                                      simp [settle, this]
      · refine ⟨_, ?_, ?_, hk⟩ <;> simp [settle, keeps, AV.under, AV.unders]
    refine wp_round (fun k ρ H' => ∃ i at' : Nat, ρ 0 = .yld l ∧ ρ 1 = .vp [x] ∧ ρ 3 = avInt .i64 at' ∧ at' ≤ b.length ∧ K i H' ∧ ((∃ m, H'.d = some m ∧ m ≤ l) ∨ H' = { l := H.l, d := none }) ∧ i ≤ (allOf b).length ∧
      (allOf b).drop i = rsigns (b.drop at').length at' (b.drop at') ∧ k = b.length - at') (n := b.length) ⟨0, 0, by simp, by simp, by simp, by omega, h0, .inr rfl, by omega, by simp [allOf], by simp⟩ ?_
    rintro k ρ H' ⟨i, at', r0, r1, r3, hat, hK, hd, hil, hs, rfl⟩
    have stop : rsigns (b.drop at').length at' (b.drop at') = [] → K (allOf b).length H' := by
      intro hn
      rw [hn] at hs
      have hi : (allOf b).length ≤ i := List.drop_eq_nil_iff.1 hs
      have : i = (allOf b).length := by omega
      rw [← this]; exact hK
    by_cases hlt : at' < b.length
    · have hlt' : (at' : Int) < b.length := by omega
      have hx := hV _ _ hK
      obtain ⟨y, hy1, hy2⟩ := Vw.from' hx (k := .i64) (i := (at' : Int)) (by omega) (by simp; omega)
      rw [Int.toNat_natCast, ← List.map_drop] at hy2
      have hf := runes_first_call h.size h.sign h.first y (b.drop at') H' hy2
      rcases rfirst_bound (b.drop at') with hz | ⟨h3, h4, h5⟩
      · simp [L_runes_All_1_1, r0, r1, r3, hlen, hlt', hy1, hf, hz]
        exact fin H' hd (.inl (stop (rsigns_stop hz _)))
      · have hz : ¬ (rfirst (b.drop at')).2 = 0 := by omega
        rw [rsigns_step hz] at hs
        have hi : i < (allOf b).length := by
          rcases Nat.lt_or_ge i (allOf b).length with h | h
          · exact h
          · rw [List.drop_eq_nil_of_le h] at hs; cases hs
        rw [List.drop_eq_getElem_cons hi] at hs
        injection hs with hs1 hs2
        obtain ⟨t, H'', e1, e2, e3, e4⟩ := hstep i (by simpa using hi) H' hK
        rw [List.getElem_map, hs1] at e1
        simp only [encS] at e1
        rw [List.length_drop] at h5
        cases t with
        | false =>
          simp [L_runes_All_1_1, r0, r1, r3, hlen, hlt', hy1, hf, hz, e1]
          exact fin H'' (.inl e2) (.inr (e4 rfl))
        | true =>
          have hw : IntKind.wrap .i64 ((at' : Int) + (rfirst (b.drop at')).2) = ((at' + (rfirst (b.drop at')).2.toNat : Nat) : Int) := by rw [wrap64 (by omega) (by omega)]; omega
          simp [L_runes_All_1_1, r0, r1, r3, hlen, hlt', hy1, hf, hz, e1, hw, -Int.natCast_add]
          refine ⟨b.length - (at' + (rfirst (b.drop at')).2.toNat), by omega, i + 1, at' + (rfirst (b.drop at')).2.toNat, rfl, by omega, e3 rfl, .inl e2, by omega, ?_, rfl⟩
          rw [hs2, List.drop_drop, List.length_drop]
    · have hlt' : ¬ (at' : Int) < b.length := by omega
      simp [L_runes_All_1_1, r0, r1, r3, hlen, hlt']
      refine fin H' hd (.inl (stop ?_))
      rw [List.drop_eq_nil_of_le (by omega)]
      exact rsigns_stop rfl _
  obtain ⟨r, e, H2, e1, e2, e3⟩ := key
  exact ⟨r.1, r.2, H2, e, e1, e2, by rw [List.length_map]; exact e3⟩

/-! ### Bad, Count -/
/-- Where the signs stop. -/
def rstop : Nat → Nat → List UInt8 → Nat
  | 0, at', _ => at'
  | k + 1, at', b => if (rfirst b).2 = 0 then at' else rstop k (at' + (rfirst b).2.toNat) (b.drop (rfirst b).2.toNat)
def stopOf (b : List UInt8) : Nat := rstop b.length 0 b
def badOf (b : List UInt8) : Int := if stopOf b = b.length then -1 else stopOf b
def endOf (init : Int) (l : List (Nat × Int)) : Int := l.foldl (fun _ p => (p.1 : Int) + runeSize p.2) init

theorem rfirst_size (b : List UInt8) (h : (rfirst b).2 ≠ 0) : runeSize (rfirst b).1 = (rfirst b).2 := by
  cases b with
  | nil => exact absurd rfl h
  | cons b0 l =>
    simp only [rfirst] at h ⊢
    split at h
    · rename_i h1; rw [if_pos h1]; simp [runeSize]; omega
    · rename_i h1
      rw [if_neg h1]
      split at h
      · exact absurd rfl h
      · rename_i h2
        rw [if_neg h2]
        split at h
        · rename_i h3
          rw [if_pos h3]
          split at h
          · rename_i h4; rw [if_pos h4]; exact h4.2
          · exact absurd rfl h
        · exact absurd rfl h
theorem endOf_rsigns : ∀ (k at' : Nat) (b : List UInt8), endOf at' (rsigns k at' b) = rstop k at' b
  | 0, at', b => rfl
  | k + 1, at', b => by
    simp only [rsigns, rstop]
    split
    · rfl
    · rename_i h
      have hb := rfirst_bound b
      have hs := rfirst_size b h
      simp only [endOf, List.foldl_cons, hs]
      have := endOf_rsigns k (at' + (rfirst b).2.toNat) (b.drop (rfirst b).2.toNat)
      simp only [endOf] at this
      rw [← this]
      congr 1
      omega
theorem rstop_le : ∀ (k at' : Nat) (b : List UInt8), rstop k at' b ≤ at' + b.length
  | 0, at', b => by simp [rstop]
  | k + 1, at', b => by
    simp only [rstop]
    split
    · omega
    · have hb := rfirst_bound b
      have := rstop_le k (at' + (rfirst b).2.toNat) (b.drop (rfirst b).2.toNat)
      rw [List.length_drop] at this
      omega
theorem rsigns_le : ∀ (k at' : Nat) (b : List UInt8), ∀ p ∈ rsigns k at' b, p.1 < at' + b.length
  | 0, at', b => by simp [rsigns]
  | k + 1, at', b => by
    intro p hp
    simp only [rsigns] at hp
    split at hp
    · simp at hp
    · have hb := rfirst_bound b
      rcases List.mem_cons.1 hp with rfl | hp
      · simp only []; omega
      · have := rsigns_le k (at' + (rfirst b).2.toNat) (b.drop (rfirst b).2.toNat) p hp
        rw [List.length_drop] at this
        omega

theorem rsigns_len : ∀ (k at' : Nat) (b : List UInt8), (rsigns k at' b).length ≤ k
  | 0, at', b => by simp [rsigns]
  | k + 1, at', b => by
    simp only [rsigns]
    split
    · simp
    · have := rsigns_len k (at' + (rfirst b).2.toNat) (b.drop (rfirst b).2.toNat)
      simp; omega
theorem rfirst_rune (b : List UInt8) : 0 ≤ (rfirst b).1 ∧ (rfirst b).1 < 1114112 := by
  cases b with
  | nil => simp [rfirst]
  | cons a l =>
    have ha := a.toNat_lt
    simp only [rfirst]
    split
    · simp only []; omega
    · split
      · simp
      · split
        · split
          · rename_i h
            have := h.1
            simp [runeSign] at this
            exact ⟨this.1.1, this.1.2⟩
          · simp
        · simp
theorem rsigns_rune : ∀ (k at' : Nat) (b : List UInt8), ∀ p ∈ rsigns k at' b, 0 ≤ p.2 ∧ p.2 < 1114112
  | 0, at', b => by simp [rsigns]
  | k + 1, at', b => by
    intro p hp
    simp only [rsigns] at hp
    split at hp
    · simp at hp
    · rcases List.mem_cons.1 hp with rfl | hp
      · exact rfirst_rune b
      · exact rsigns_rune k _ _ p hp
theorem endOf_take {b : List UInt8} {i : Nat} (hi : i < (allOf b).length) : endOf 0 ((allOf b).take (i + 1)) = ((allOf b)[i].1 : Int) + runeSize (allOf b)[i].2 := by
  rw [List.take_succ_eq_append_getElem hi]
  simp only [endOf, List.foldl_append, List.foldl_cons, List.foldl_nil]

theorem runes_Bad_call (h : RunesAll Γ A N) (hb : Has Γ A (f_runes_Bad N) (C_runes_Bad N)) {x : AV} {b : List UInt8} (H : Hp) (hx : VBytes H x b) (hl : b.length < 2 ^ 62) : (lim Γ A).call (f_runes_Bad N) [x] H = some (avInt .i64 (badOf b), none) := by
  apply hb.call (by rfl)
  have hlen := hx.len
  rw [List.length_map] at hlen
  have hall := runes_All_call h (hset (halloc { l := H.l, d := none } (.cells [AV.lit (.int .i64 0)] (t_int N))) H.l.length (some (.cells [AV.lit (.int .i64 0)] (t_int N)))) (x := x) (b := b) (Vw.loc hx (((Loc.start H).alloc _).set _))
  simp [C_runes_Bad, hall]
  refine wp_rangeFn (H0 := H) (os := [(H.l.length, .cells [avInt .i64 0] (t_int N))]) (by simp) (runes_All_gen h (x := x) hl) rfl (by simpa using ((Loc.start H).alloc (.cells [avInt .i64 0] (t_int N))).set (.cells [avInt .i64 0] (t_int N))) (by intro x hx; obtain ⟨p, _, rfl⟩ := List.mem_map.1 hx; rfl)
    (fun i os => os = [(H.l.length, .cells [avInt .i64 (endOf 0 ((allOf b).take i))] (t_int N))]) (fun _ _ => False) (fun _ _ _ _ _ hL _ => Vw.loc hx hL) (by simp [endOf]) ?_ ?_
  · rintro i hi l lo lb H' os' _ hL rfl
    simp only [List.length_map] at hi
    simp [L_runes_Bad_1, encS]
    refine ⟨_, hL, ?_⟩
    intro H1 hL1
    have a1 := hL1.get (p := (H.l.length, .cells [avInt .i64 (endOf 0 ((allOf b).take i))] (t_int N))) (by simp)
    simp only [] at a1
    have hle := rsigns_le _ _ _ _ (List.getElem_mem hi)
    have hsz : 1 ≤ runeSize (allOf b)[i].2 ∧ runeSize (allOf b)[i].2 ≤ 4 := by unfold runeSize; (repeat' split) <;> omega
    have hw : IntKind.wrap .i64 (((allOf b)[i].1 : Int) + runeSize (allOf b)[i].2) = endOf 0 ((allOf b).take (i + 1)) := by rw [wrap64 (by omega) (by omega), endOf_take hi]
    simp [L_runes_Bad_2, runes_size_call h.size, a1, hw]
    exact hL1.setMid (as := [_]) _
  · intro x H2 os2 hL hx
    rcases hx with ⟨rfl, rfl⟩ | ⟨_, hf⟩
    · have a1 := hL.head
      have he : endOf 0 ((allOf b).take ((allOf b).map encS).length) = stopOf b := by
        rw [List.length_map, List.take_length]; exact endOf_rsigns _ _ _
      rw [he] at a1
      by_cases hs : stopOf b = b.length
      · simp [K_runes_Bad_1, a1, hlen, hs, badOf]
        exact settle_keeps hL.keeps rfl
      · have hs' : ¬ (stopOf b : Int) = b.length := by omega
        simp [K_runes_Bad_1, a1, hlen, hs, hs', badOf]
        exact settle_keeps hL.keeps rfl
    · exact hf.elim

theorem runes_Count_call (h : RunesAll Γ A N) (hb : Has Γ A (f_runes_Count N) (C_runes_Count N)) {x : AV} {b : List UInt8} (H : Hp) (hx : VBytes H x b) (hl : b.length < 2 ^ 62) : (lim Γ A).call (f_runes_Count N) [x] H = some (avInt .i64 ((allOf b).length : Int), none) := by
  apply hb.call (by rfl)
  have hall := runes_All_call h (hset (halloc { l := H.l, d := none } (.cells [AV.lit (.int .i64 0)] (t_int N))) H.l.length (some (.cells [AV.lit (.int .i64 0)] (t_int N)))) (x := x) (b := b) (Vw.loc hx (((Loc.start H).alloc _).set _))
  simp [C_runes_Count, hall]
  refine wp_rangeFn (H0 := H) (os := [(H.l.length, .cells [avInt .i64 0] (t_int N))]) (by simp) (runes_All_gen h (x := x) hl) rfl (by simpa using ((Loc.start H).alloc (.cells [avInt .i64 0] (t_int N))).set (.cells [avInt .i64 0] (t_int N))) (by intro x hx; obtain ⟨p, _, rfl⟩ := List.mem_map.1 hx; rfl)
    (fun i os => i ≤ (allOf b).length ∧ os = [(H.l.length, .cells [avInt .i64 (i : Int)] (t_int N))]) (fun _ _ => False) (fun _ _ _ _ _ hL _ => Vw.loc hx hL) (by simp) ?_ ?_
  · rintro i hi l lo lb H' os' _ hL ⟨hil, rfl⟩
    simp only [List.length_map] at hi
    simp [L_runes_Count_1, encS]
    refine ⟨_, hL, ?_⟩
    intro H1 hL1
    have a1 := hL1.get (p := (H.l.length, .cells [avInt .i64 (i : Int)] (t_int N))) (by simp)
    simp only [] at a1
    have hll : (allOf b).length ≤ b.length := rsigns_len _ _ _
    have hw : IntKind.wrap .i64 ((i : Int) + 1) = ((i + 1 : Nat) : Int) := by rw [wrap64 (by omega) (by omega)]; omega
    simp [L_runes_Count_2, a1, hw, -Int.natCast_add]
    exact ⟨hL1.setMid (as := [_]) _, hi⟩
  · intro x H2 os2 hL hx
    rcases hx with ⟨rfl, _, rfl⟩ | ⟨_, hf⟩
    · have a1 := hL.head
      rw [List.length_map] at a1
      simp [K_runes_Count_1, a1]
      exact settle_keeps hL.keeps rfl
    · exact hf.elim
end
end Go.Proofs.Eng
