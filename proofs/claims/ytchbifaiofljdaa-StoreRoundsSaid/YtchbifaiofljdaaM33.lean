import Derived.Test.YtchbifaiofljdaaM32
import Derived.KernelRfl
/- The functions of package runes, run by the engine. -/
set_option linter.unusedVariables false
set_option linter.unusedSimpArgs false
set_option maxRecDepth 100000
namespace Go.Proofs.Eng
open Go
section
variable {Γ : Sums} {A : Tab} {N : Nat → Nat}

def runeSize (r : Int) : Int := if r < 128 then 1 else if r < 2048 then 2 else if r < 65536 then 3 else 4
def runeSign (r : Int) : Bool := decide (0 ≤ r) && decide (r < 1114112) && (decide (r < 55296) || decide (57343 < r))

theorem runes_size_call (h : Has Γ A (f_runes_size N) (C_runes_size N)) (r : Int) (H : Hp) : (lim Γ A).call (f_runes_size N) [avInt .i32 r] H = some (avInt .i64 (runeSize r), none) := by
  apply h.call (by rfl)
  unfold runeSize
  by_cases h1 : r < 128
  · simp [C_runes_size, h1]
  · by_cases h2 : r < 2048
    · simp [C_runes_size, h1, h2]
    · by_cases h3 : r < 65536
      · simp [C_runes_size, h1, h2, h3]
      · simp [C_runes_size, h1, h2, h3]

theorem runes_sign_call (h : Has Γ A (f_runes_sign N) (C_runes_sign N)) (r : Int) (H : Hp) : (lim Γ A).call (f_runes_sign N) [avInt .i32 r] H = some (avBool (runeSign r), none) := by
  apply h.call (by rfl)
  unfold runeSign
  by_cases h1 : 0 ≤ r <;> by_cases h2 : r < 1114112 <;> by_cases h3 : r < 55296 <;> simp [C_runes_sign, h1, h2, h3]

/-! ### The sign at the head of bytes -/
def lead (b : UInt8) : Nat := if b.toNat < 128 then 0 else if b.toNat < 192 then 1 else if b.toNat < 224 then 2 else if b.toNat < 240 then 3 else 4
def isCont (b : UInt8) : Bool := decide (128 ≤ b.toNat) && decide (b.toNat < 192)
/-- What the bytes behind the first one add. -/
def accB (r : Int) : List UInt8 → Int
  | [] => r
  | b :: l => accB (r * 64 + ((b.toNat % 64 : Nat) : Int)) l
def headR (b0 : UInt8) : Int := ((b0.toNat % 2 ^ (7 - lead b0) : Nat) : Int)
def rfirst : List UInt8 → Int × Int
  | [] => (0, 0)
  | b0 :: l =>
    if b0.toNat < 128 then ((b0.toNat : Int), 1)
    else if lead b0 < 2 ∨ l.length + 1 < lead b0 ∨ 248 ≤ b0.toNat then (0, 0)
    else if ((l.take (lead b0 - 1)).all isCont) = true then
      if runeSign (accB (headR b0) (l.take (lead b0 - 1))) = true ∧ runeSize (accB (headR b0) (l.take (lead b0 - 1))) = lead b0 then (accB (headR b0) (l.take (lead b0 - 1)), (lead b0 : Int)) else (0, 0)
    else (0, 0)

theorem all256 {p : UInt8 → Bool} (h : (List.range 256).all (fun n => p (UInt8.ofNat n)) = true) (b : UInt8) : p b = true := by
  rw [List.all_eq_true] at h
  have := h b.toNat (by simp; exact b.toNat_lt)
  simpa using this

theorem bit_all : (List.range 256).all (fun i => (List.range 4).all fun n => decide (n ≤ lead (UInt8.ofNat i) → 128 ≤ (UInt8.ofNat i).toNat → decide (bAnd .u8 (bShl .u8 ((UInt8.ofNat i).toNat : Int) (n : Int)) 128 = 0) = !decide (n < lead (UInt8.ofNat i)))) = true := by decide +kernel
theorem bit_lead (b : UInt8) (n : Nat) (hn : n < 4) (h : n ≤ lead b) (hb : 128 ≤ b.toNat) : decide (bAnd .u8 (bShl .u8 (b.toNat : Int) (n : Int)) 128 = 0) = !decide (n < lead b) := by
  have := all256 (p := fun b => (List.range 4).all fun n => decide (n ≤ lead b → 128 ≤ b.toNat → decide (bAnd .u8 (bShl .u8 (b.toNat : Int) (n : Int)) 128 = 0) = !decide (n < lead b))) bit_all b
  rw [List.all_eq_true] at this
  have := this n (by simp; exact hn)
  simp only [decide_eq_true_eq] at this
  exact this h hb
theorem lead_le (b : UInt8) : lead b ≤ 4 := by unfold lead; (repeat' split) <;> omega

theorem first_loop1 {x : AV} {b0 : UInt8} {ρ : Rho} {H : Hp} {Q : Post} {p : AV} (hi : aiaddr 1 x (.lit (.int .i64 0)) = some p) (hi2 : aload H none p = some (avByte b0)) (hb : 128 ≤ b0.toNat) (h0 : ρ 0 = x) (h4 : ρ 4 = avInt .i64 0)
    (hQ : ∀ ρ' : Rho, ρ' 0 = x → ρ' 4 = avInt .i64 (lead b0) → Q (.exit 0) ρ' H) : wp (lim Γ A) none (.loop (L_runes_first_1 N)) ρ H Q := by
  refine wp_round (fun k ρ H' => H' = H ∧ ∃ n : Nat, ρ 0 = x ∧ ρ 4 = avInt .i64 n ∧ n ≤ lead b0 ∧ k = 4 - n) (n := 4) ⟨rfl, 0, h0, h4, by omega, rfl⟩ ?_
  rintro k ρ H' ⟨rfl, n, h0, h4, hn, rfl⟩
  have hl4 := lead_le b0
  by_cases hn4 : n < 4
  · have hbl := bit_lead b0 n hn4 hn (by omega)
    have hn5 : (n : Int) < 4 := by omega
    by_cases hnl : n < lead b0
    · simp only [hnl, decide_true, Bool.not_true, decide_eq_false_iff_not] at hbl
      have hw : IntKind.wrap .i64 ((n : Int) + 1) = ((n + 1 : Nat) : Int) := by rw [wrap64 (by omega) (by omega)]; omega
      simp [L_runes_first_1, h0, h4, hn5, hi, hi2, avByte, hbl, hw, -Int.natCast_add]
      exact ⟨4 - (n + 1), by omega, n + 1, rfl, by omega, rfl⟩
    · have hnl2 : n = lead b0 := by omega
      simp only [hnl, decide_false, Bool.not_false, decide_eq_true_eq] at hbl
      simp [L_runes_first_1, h0, h4, hn5, hi, hi2, avByte, hbl]
      apply hQ <;> simp [h0, h4, hnl2]
  · have hn5 : ¬ (n : Int) < 4 := by omega
    have hnl2 : n = lead b0 := by omega
    simp [L_runes_first_1, h0, h4, hn5]
    apply hQ <;> simp [h0, h4, hnl2]

theorem cont_and (b : UInt8) : decide (bAnd .u8 (b.toNat : Int) 192 = 128) = isCont b := by
  have := all256 (p := fun b => decide (decide (bAnd .u8 (b.toNat : Int) 192 = 128) = isCont b)) (by decide +kernel) b
  simpa only [decide_eq_true_eq] using this
theorem low6_and (b : UInt8) : IntKind.wrap .i32 (bAnd .u8 (b.toNat : Int) 63) = ((b.toNat % 64 : Nat) : Int) := by
  have := all256 (p := fun b => decide (IntKind.wrap .i32 (bAnd .u8 (b.toNat : Int) 63) = ((b.toNat % 64 : Nat) : Int))) (by decide +kernel) b
  simpa only [decide_eq_true_eq] using this
theorem wrap32 {a : Int} (h1 : -2147483648 ≤ a) (h2 : a ≤ 2147483647) : IntKind.wrap .i32 a = a := by
  simp only [IntKind.wrap, IntKind.bits, IntKind.signed]
  simp
  omega
theorem or_add {r y : Nat} (hr : r < 2 ^ 24) (hy : y < 64) : bOr .i32 (bShl .i32 (r : Int) 6) (y : Int) = ((r * 64 + y : Nat) : Int) := by
  have h6 : bShl .i32 (r : Int) 6 = (r : Int) * 2 ^ 6 := by
    show IntKind.wrap .i32 ((r : Int) * 2 ^ 6) = _
    rw [wrap32 (by omega) (by omega)]
  rw [h6]
  have h1 : (BitVec.ofInt 32 ((r : Int) * 2 ^ 6) ||| BitVec.ofInt 32 (y : Int)).toNat = r * 64 + y := by
    rw [BitVec.toNat_or]
    have e1 : (BitVec.ofInt 32 ((r : Int) * 2 ^ 6)).toNat = r <<< 6 := by
      rw [BitVec.toNat_ofInt, Nat.shiftLeft_eq]; omega
    have e2 : (BitVec.ofInt 32 (y : Int)).toNat = y := by
      rw [BitVec.toNat_ofInt]; omega
    rw [e1, e2, ← Nat.shiftLeft_add_eq_or_of_lt (by omega : y < 2 ^ 6), Nat.shiftLeft_eq]
  show IntKind.wrap .i32 (BitVec.ofInt 32 ((r : Int) * 2 ^ 6) ||| BitVec.ofInt 32 (y : Int)).toNat = _
  rw [h1, wrap32 (by omega) (by omega)]

theorem accB_snoc (r : Int) (l : List UInt8) (b : UInt8) : accB r (l ++ [b]) = accB r l * 64 + ((b.toNat % 64 : Nat) : Int) := by
  induction l generalizing r with
  | nil => rfl
  | cons a l ih => simp only [List.cons_append, accB]; rw [ih]
theorem accB_nat (r : Nat) (l : List UInt8) : ∃ m : Nat, accB r l = m ∧ m < (r + 1) * 64 ^ l.length := by
  induction l generalizing r with
  | nil => exact ⟨r, rfl, by simp⟩
  | cons a l ih =>
    obtain ⟨m, e, h⟩ := ih (r * 64 + a.toNat % 64)
    refine ⟨m, ?_, ?_⟩
    · simp only [accB]; rw [← e]; congr 1
    · refine Nat.lt_of_lt_of_le h ?_
      rw [List.length_cons, Nat.pow_succ, Nat.mul_comm (64 ^ l.length) 64, ← Nat.mul_assoc]
      apply Nat.mul_le_mul_right
      have : a.toNat % 64 < 64 := Nat.mod_lt _ (by omega)
      omega

/-- The bytes behind the first one. -/
theorem first_loop2 {y : AV} {m : List UInt8} {r0 : Nat} {n : AV} {ρ : Rho} {H : Hp} {Q : Post} (hy : VBytes H y m) (hm : m.length ≤ 3) (hr : r0 < 32) (h4 : ρ 4 = n) (h5 : ρ 5 = avInt .i32 r0) (h55 : ρ 55 = y) (h56 : ρ 56 = avInt .i64 m.length) (h57 : ρ 57 = avInt .i64 0)
    (hQ : ∀ ρ' : Rho, ρ' 4 = n → ρ' 5 = avInt .i32 (accB r0 m) → m.all isCont = true → Q (.exit 2) ρ' H) (hR : ∀ ρ' : Rho, ρ' 2 = avInt .i32 0 → ρ' 3 = avInt .i64 0 → m.all isCont = false → Q .ret ρ' H) : wp (lim Γ A) none (.loop (L_runes_first_2 N)) ρ H Q := by
  refine wp_round (fun k ρ H' => H' = H ∧ ∃ i : Nat, ρ 4 = n ∧ ρ 5 = avInt .i32 (accB r0 (m.take i)) ∧ ρ 55 = y ∧ ρ 56 = avInt .i64 m.length ∧ ρ 57 = avInt .i64 i ∧ i ≤ m.length ∧ (m.take i).all isCont = true ∧ k = m.length - i) (n := m.length)
    ⟨rfl, 0, h4, by simpa [accB] using h5, h55, h56, h57, by omega, by simp, by simp⟩ ?_
  rintro k ρ H' ⟨rfl, i, h4, h5, h55, h56, h57, hi, hc, rfl⟩
  by_cases hlt : i < m.length
  · have hlt' : (i : Int) < m.length := by omega
    obtain ⟨p, ha, ha2⟩ := VBytes.at' hy (k := .i64) (i := (i : Int)) (by omega) (by simpa using hlt)
    simp only [Int.toNat_natCast] at ha ha2
    have htk : m.take (i + 1) = m.take i ++ [m[i]] := List.take_succ_eq_append_getElem hlt
    have hca := cont_and m[i]
    by_cases hct : isCont m[i] = true
    · rw [hct, decide_eq_true_eq] at hca
      obtain ⟨q, hq, hq2⟩ := accB_nat r0 (m.take i)
      have hq3 : q < 2 ^ 24 := by
        refine Nat.lt_of_lt_of_le hq2 ?_
        have : (m.take i).length ≤ 2 := by simp; omega
        calc (r0 + 1) * 64 ^ (m.take i).length ≤ 32 * 64 ^ 2 := Nat.mul_le_mul (by omega) (Nat.pow_le_pow_right (by omega) this)
          _ ≤ 2 ^ 24 := by omega
      have ho := or_add hq3 (Nat.mod_lt m[i].toNat (by omega : 0 < 64))
      have hw : IntKind.wrap .i64 ((i : Int) + 1) = ((i + 1 : Nat) : Int) := by rw [wrap64 (by omega) (by omega)]; omega
      rw [hq] at h5
      simp [L_runes_first_2, h4, h5, h55, h56, h57, hlt', ha, ha2, avByte, hca, low6_and, ho, hw, -Int.natCast_emod, -Int.natCast_add, -Int.natCast_mul]
      refine ⟨m.length - (i + 1), by omega, i + 1, ?_, rfl, by omega, ?_, rfl⟩
      · rw [htk, accB_snoc, hq]; simp
      · rw [htk]
        intro z hz
        rcases List.mem_append.1 hz with hz | hz
        · exact List.all_eq_true.1 hc z hz
        · simp only [List.mem_singleton] at hz; subst hz; exact hct
    · rw [Bool.not_eq_true] at hct
      rw [hct, decide_eq_false_iff_not] at hca
      simp [L_runes_first_2, h4, h5, h55, h56, h57, hlt', ha, ha2, avByte, hca]
      apply hR
      · simp
      · simp
      · rw [List.all_eq_false]
        exact ⟨m[i], List.getElem_mem _, by simp [hct]⟩
  · have hlt' : ¬ (i : Int) < m.length := by omega
    have htk : m.take i = m := List.take_of_length_le (by omega)
    simp [L_runes_first_2, h4, h5, h55, h56, h57, hlt']
    rw [htk] at h5 hc
    apply hQ
    · simp [h4]
    · simp [h5]
    · exact hc

theorem head_and (b : UInt8) (h : 2 ≤ lead b) (h2 : b.toNat < 248) : IntKind.wrap .i32 (bAnd .u8 (b.toNat : Int) (bShr .u8 127 (lead b : Int))) = headR b := by
  have := all256 (p := fun b => decide (2 ≤ lead b → b.toNat < 248 → IntKind.wrap .i32 (bAnd .u8 (b.toNat : Int) (bShr .u8 127 (lead b : Int))) = headR b)) (by decide +kernel) b
  simp only [decide_eq_true_eq] at this
  exact this h h2

theorem runes_first_call (hsz : Has Γ A (f_runes_size N) (C_runes_size N)) (hsg : Has Γ A (f_runes_sign N) (C_runes_sign N)) (h : Has Γ A (f_runes_first N) (C_runes_first N)) (x : AV) (b : List UInt8) (H : Hp) (hx : VBytes H x b) :
    (lim Γ A).call (f_runes_first N) [x] H = some (.tup [avInt .i32 (rfirst b).1, avInt .i64 (rfirst b).2], none) := by
  apply h.call (by rfl)
  replace hx : VBytes { l := H.l, d := none } x b := Vw.dd hx none
  have hlen := hx.len
  cases b with
  | nil => 
    simp [C_runes_first, hlen, rfirst]
  | cons b0 l =>
    obtain ⟨p, hi, hi2⟩ := VBytes.at' hx (k := .i64) (i := 0) (by omega) (by simp)
    simp only [Int.reduceToNat, List.getElem_cons_zero] at hi hi2
    simp only [List.map_cons, List.length_cons, List.length_map] at hlen
    have hz : ¬ ((l.length : Int) + 1 = 0) := by omega
    by_cases h128 : b0.toNat < 128
    · have h1 : (b0.toNat : Int) < 128 := by omega
      have hw : IntKind.wrap .i32 (b0.toNat : Int) = b0.toNat := wrap32 (by omega) (by omega)
      simp [C_runes_first, hlen, rfirst, hz, hi, hi2, avByte, h1, h128, hw]
    · have h1 : ¬ (b0.toNat : Int) < 128 := by omega
      simp [C_runes_first, hlen, hz, hi, hi2, avByte, h1]
      refine first_loop1 hi hi2 (by omega) (by simp) (by simp) ?_
      intro ρ h0 h4
      simp only [blockP_exit, if_true, seqP_nrm]
      by_cases hl2 : lead b0 < 2
      · have hl3 : (lead b0 : Int) < 2 := by omega
        simp [K_runes_first_1, h0, h4, hl3, rfirst, h128, hl2]
      · have hl3 : ¬ (lead b0 : Int) < 2 := by omega
        by_cases hl5 : l.length + 1 < lead b0
        · have hl6 : (l.length : Int) + 1 < lead b0 := by omega
          simp [K_runes_first_1, h0, h4, hl3, rfirst, h128, hl2, hlen, hl5, hl6]
        · have hl6 : ¬ (l.length : Int) + 1 < lead b0 := by omega
          by_cases h248 : 248 ≤ b0.toNat
          · have h249 : 248 ≤ (b0.toNat : Int) := by omega
            simp [K_runes_first_1, h0, h4, hl3, rfirst, h128, hl2, hlen, hl5, hl6, hi, hi2, avByte, h248, h249]
          · have h249 : ¬ 248 ≤ (b0.toNat : Int) := by omega
            have hh := head_and b0 (by omega) (by omega)
            have h47 := lead_le b0
            obtain ⟨y, hy1, hy2⟩ := Vw.cut hx (k := .i64) (k' := .i64) (i := 1) (j := (lead b0 : Int)) (by omega) (by omega) (by simp; omega)
            simp only [List.map_cons, Int.reduceToNat, List.drop_succ_cons, List.drop_zero, Int.toNat_natCast, ← List.map_take] at hy2
            have hyl := hy2.len
            have hml : (l.take (lead b0 - 1)).length = lead b0 - 1 := by simp; omega
            rw [List.length_map, hml] at hyl
            have hf : rfirst (b0 :: l) = (if ((l.take (lead b0 - 1)).all isCont) = true then
                if runeSign (accB (headR b0) (l.take (lead b0 - 1))) = true ∧ runeSize (accB (headR b0) (l.take (lead b0 - 1))) = lead b0 then (accB (headR b0) (l.take (lead b0 - 1)), (lead b0 : Int)) else (0, 0)
              else (0, 0)) := by
              simp only [rfirst, h128, if_false, hl2, hl5, h248, or_self]
            simp [K_runes_first_1, h0, h4, hl3, hlen, hl6, hi, hi2, avByte, h249, hy1, hyl, hh]
            have hhr : headR b0 = ((b0.toNat % 2 ^ (7 - lead b0) : Nat) : Int) := rfl
            have hr32 : b0.toNat % 2 ^ (7 - lead b0) < 32 := by
              have : b0.toNat % 2 ^ (7 - lead b0) < 2 ^ (7 - lead b0) := Nat.mod_lt _ (Nat.two_pow_pos _)
              refine Nat.lt_of_lt_of_le this ?_
              exact Nat.pow_le_pow_right (by omega) (by omega : 7 - lead b0 ≤ 5)
            refine first_loop2 (m := l.take (lead b0 - 1)) (n := avInt .i64 (lead b0)) hy2 (by rw [hml]; omega) hr32 (by simp [h4]) (by simp [hhr]) (by simp) (by simp [hml]) (by simp) ?_ ?_
            · intro ρ h4 h5 hall
              simp only [blockP_exit, if_true, seqP_nrm]
              rw [hf, if_pos hall]
              rw [← hhr] at h5
              have e1 := runes_sign_call hsg (accB (headR b0) (l.take (lead b0 - 1))) { l := H.l, d := none }
              have e2 := runes_size_call hsz (accB (headR b0) (l.take (lead b0 - 1))) { l := H.l, d := none }
              by_cases hs1 : runeSign (accB (headR b0) (l.take (lead b0 - 1))) = true
              · by_cases hs2 : runeSize (accB (headR b0) (l.take (lead b0 - 1))) = lead b0
                · simp [K_runes_first_2, h4, h5, e1, e2, hs1, hs2]
                · simp [K_runes_first_2, h4, h5, e1, e2, hs1, hs2]
              · simp [K_runes_first_2, h4, h5, e1, hs1]
            · intro ρ h2 h3 hall
              rw [hf, hall]
              simp [h2, h3]

/-! ### All signs -/
/-- The signs of bytes, with their places. -/
def rsigns : Nat → Nat → List UInt8 → List (Nat × Int)
  | 0, _, _ => []
  | k + 1, at', b => if (rfirst b).2 = 0 then [] else (at', (rfirst b).1) :: rsigns k (at' + (rfirst b).2.toNat) (b.drop (rfirst b).2.toNat)
def allOf (b : List UInt8) : List (Nat × Int) := rsigns b.length 0 b
def encS (p : Nat × Int) : List AV := [avInt .i64 p.1, avInt .i32 p.2]

theorem rfirst_bound (b : List UInt8) : (rfirst b).2 = 0 ∨ (1 ≤ (rfirst b).2 ∧ (rfirst b).2 ≤ 4 ∧ (rfirst b).2 ≤ b.length) := by
  cases b with
  | nil => exact .inl rfl
  | cons b0 l =>
    have := lead_le b0
    simp only [rfirst]
    split
    · right; simp; omega
    · split
      · left; rfl
      · split
        · split
          · right; rename_i h _ _; simp; omega
          · left; rfl
        · left; rfl
theorem rsigns_fuel : ∀ (k j at' : Nat) (b : List UInt8), b.length ≤ k → b.length ≤ j → rsigns k at' b = rsigns j at' b
  | 0, 0, _, _, _, _ => rfl
  | 0, j + 1, at', b, h, _ => by
    have : b = [] := by cases b with | nil => rfl | cons => simp at h
    subst this; simp [rsigns, rfirst]
  | k + 1, 0, at', b, _, h => by
    have : b = [] := by cases b with | nil => rfl | cons => simp at h
    subst this; simp [rsigns, rfirst]
  | k + 1, j + 1, at', b, h1, h2 => by
    simp only [rsigns]
    rcases rfirst_bound b with h | ⟨h3, h4, h5⟩
    · simp [h]
    · have hne : ¬ (rfirst b).2 = 0 := by omega
      rw [if_neg hne, if_neg hne, rsigns_fuel k j _ _ (by simp; omega) (by simp; omega)]
theorem rsigns_step {at' : Nat} {b : List UInt8} (h : (rfirst b).2 ≠ 0) : rsigns b.length at' b = (at', (rfirst b).1) :: rsigns (b.drop (rfirst b).2.toNat).length (at' + (rfirst b).2.toNat) (b.drop (rfirst b).2.toNat) := by
  rcases rfirst_bound b with h' | ⟨h3, h4, h5⟩
  · exact absurd h' h
  · obtain ⟨k, hk⟩ : ∃ k, b.length = k + 1 := ⟨b.length - 1, by omega⟩
    rw [hk]
    simp only [rsigns]
    rw [if_neg h, rsigns_fuel k _ _ _ (by simp; omega) (Nat.le_refl _)]
theorem rsigns_stop {at' : Nat} {b : List UInt8} (h : (rfirst b).2 = 0) (k : Nat) : rsigns k at' b = [] := by
  cases k with
  | zero => rfl
  | succ k => simp [rsigns, h]

structure RunesAll (Γ : Sums) (A : Tab) (N : Nat → Nat) : Prop where
  size : Has Γ A (f_runes_size N) (C_runes_size N)
  sign : Has Γ A (f_runes_sign N) (C_runes_sign N)
  first : Has Γ A (f_runes_first N) (C_runes_first N)
  all : Has Γ A (f_runes_All N) (C_runes_All N)
  all1 : Has Γ A (f_runes_All_1 N) (C_runes_All_1 N)

theorem runes_All_call (h : RunesAll Γ A N) {x : AV} {b : List UInt8} (H : Hp) (hx : VBytes H x b) : (lim Γ A).call (f_runes_All N) [x] H = some (.fn (f_runes_All_1 N) [] [.vp [x]], none) := by
  apply h.all.call (by rfl)
  have hg := Vw.good hx
  simp [C_runes_All, hg.1]
  apply settleZ_frz
  · simp [keeps]
  · rw [frz_fn, mapM_cons', frz_ptr (cs := x.cells) (t := t_sl_uint8 N) (by simp) (by simp) (by simp), hg.2, List.drop_zero, mapM_cons', Vw.frz hx (bytes_lits b)]
    rfl

theorem runes_All_gen (h : RunesAll Γ A N) {x : AV} {b : List UInt8} (hb : b.length < 2 ^ 62) : GenW (lim Γ A) (f_runes_All_1 N) [] [.vp [x]] (fun H => VBytes H x b) ((allOf b).map encS) := by
  intro l H K Kx hl hV h0 hstep
  have hlen := Vw.len (hV _ _ h0)
  rw [List.length_map] at hlen
  have key : ∃ r, (lim Γ A).ent (f_runes_All_1 N) [.yld l, .vp [x]] H = some r ∧ ∃ H2, (r.2.getD H).l = H2.l ∧ (r.2.getD H).d = dminO H.d H2.d ∧ (K (allOf b).length H2 ∨ Kx H2) := by
    apply h.all1.entP (by rfl)
    simp [C_runes_All_1]
    -- what is owed at the end
    have fin : ∀ H', ((∃ m, H'.d = some m ∧ m ≤ l) ∨ H' = { l := H.l, d := none }) → (K (allOf b).length H' ∨ Kx H') → ∃ H2, ((settle H (.tup []) H').2.getD H).l = H2.l ∧ ((settle H (.tup []) H').2.getD H).d = dminO H.d H2.d ∧ (K (allOf b).length H2 ∨ Kx H2) := by
      rintro H' (⟨m, hm, hml⟩ | rfl) hk
      · refine ⟨H', ?_, ?_, hk⟩ <;> · have : keeps H H' = false := by simp [keeps, hm]; omega
                                      simp [settle, this]
      · refine ⟨_, ?_, ?_, hk⟩ <;> simp [settle, keeps, AV.under, AV.unders]
    refine wp_round (fun k ρ H' => ∃ i at' : Nat, ρ 0 = .yld l ∧ ρ 1 = .vp [x] ∧ ρ 3 = avInt .i64 at' ∧ at' ≤ b.length ∧ K i H' ∧ ((∃ m, H'.d = some m ∧ m ≤ l) ∨ H' = { l := H.l, d := none }) ∧ i ≤ (allOf b).length ∧
      (allOf b).drop i = rsigns (b.drop at').length at' (b.drop at') ∧ k = b.length - at') (n := b.length) ⟨0, 0, by simp, by simp, by simp, by omega, h0, .inr rfl, by omega, by simp [allOf], by simp⟩ ?_
    rintro k ρ H' ⟨i, at', r0, r1, r3, hat, hK, hd, hil, hs, rfl⟩
    have stop : rsigns (b.drop at').length at' (b.drop at') = [] → K (allOf b).length H' := by
      intro hn
      rw [hn] at hs
      have hi : (allOf b).length ≤ i := List.drop_eq_nil_iff.1 hs
      have : i = (allOf b).length := by omega
      rw [← this]; exact hK
    by_cases hlt : at' < b.length
    · have hlt' : (at' : Int) < b.length := by omega
      have hx := hV _ _ hK
      obtain ⟨y, hy1, hy2⟩ := Vw.from' hx (k := .i64) (i := (at' : Int)) (by omega) (by simp; omega)
      rw [Int.toNat_natCast, ← List.map_drop] at hy2
      have hf := runes_first_call h.size h.sign h.first y (b.drop at') H' hy2
      rcases rfirst_bound (b.drop at') with hz | ⟨h3, h4, h5⟩
      · simp [L_runes_All_1_1, r0, r1, r3, hlen, hlt', hy1, hf, hz]
        exact fin H' hd (.inl (stop (rsigns_stop hz _)))
      · have hz : ¬ (rfirst (b.drop at')).2 = 0 := by omega
        rw [rsigns_step hz] at hs
        have hi : i < (allOf b).length := by
          rcases Nat.lt_or_ge i (allOf b).length with h | h
          · exact h
          · rw [List.drop_eq_nil_of_le h] at hs; cases hs
        rw [List.drop_eq_getElem_cons hi] at hs
        injection hs with hs1 hs2
        obtain ⟨t, H'', e1, e2, e3, e4⟩ := hstep i (by simpa using hi) H' hK
        rw [List.getElem_map, hs1] at e1
        simp only [encS] at e1
        rw [List.length_drop] at h5
        cases t with
        | false =>
          simp [L_runes_All_1_1, r0, r1, r3, hlen, hlt', hy1, hf, hz, e1]
          exact fin H'' (.inl e2) (.inr (e4 rfl))
        | true =>
          have hw : IntKind.wrap .i64 ((at' : Int) + (rfirst (b.drop at')).2) = ((at' + (rfirst (b.drop at')).2.toNat : Nat) : Int) := by rw [wrap64 (by omega) (by omega)]; omega
          simp [L_runes_All_1_1, r0, r1, r3, hlen, hlt', hy1, hf, hz, e1, hw, -Int.natCast_add]
          refine ⟨b.length - (at' + (rfirst (b.drop at')).2.toNat), by omega, i + 1, at' + (rfirst (b.drop at')).2.toNat, rfl, by omega, e3 rfl, .inl e2, by omega, ?_, rfl⟩
          rw [hs2, List.drop_drop, List.length_drop]
    · have hlt' : ¬ (at' : Int) < b.length := by omega
      simp [L_runes_All_1_1, r0, r1, r3, hlen, hlt']
      refine fin H' hd (.inl (stop ?_))
      rw [List.drop_eq_nil_of_le (by omega)]
      exact rsigns_stop rfl _
  obtain ⟨r, e, H2, e1, e2, e3⟩ := key
  exact ⟨r.1, r.2, H2, e, e1, e2, by rw [List.length_map]; exact e3⟩

/-! ### Bad, Count -/
/-- Where the signs stop. -/
def rstop : Nat → Nat → List UInt8 → Nat
  | 0, at', _ => at'
  | k + 1, at', b => if (rfirst b).2 = 0 then at' else rstop k (at' + (rfirst b).2.toNat) (b.drop (rfirst b).2.toNat)
def stopOf (b : List UInt8) : Nat := rstop b.length 0 b
def badOf (b : List UInt8) : Int := if stopOf b = b.length then -1 else stopOf b
def endOf (init : Int) (l : List (Nat × Int)) : Int := l.foldl (fun _ p => (p.1 : Int) + runeSize p.2) init

theorem rfirst_size (b : List UInt8) (h : (rfirst b).2 ≠ 0) : runeSize (rfirst b).1 = (rfirst b).2 := by
  cases b with
  | nil => exact absurd rfl h
  | cons b0 l =>
    simp only [rfirst] at h ⊢
    split at h
    · rename_i h1; rw [if_pos h1]; simp [runeSize]; omega
    · rename_i h1
      rw [if_neg h1]
      split at h
      · exact absurd rfl h
      · rename_i h2
        rw [if_neg h2]
        split at h
        · rename_i h3
          rw [if_pos h3]
          split at h
          · rename_i h4; rw [if_pos h4]; exact h4.2
          · exact absurd rfl h
        · exact absurd rfl h
theorem endOf_rsigns : ∀ (k at' : Nat) (b : List UInt8), endOf at' (rsigns k at' b) = rstop k at' b
  | 0, at', b => rfl
  | k + 1, at', b => by
    simp only [rsigns, rstop]
    split
    · rfl
    · rename_i h
      have hb := rfirst_bound b
      have hs := rfirst_size b h
      simp only [endOf, List.foldl_cons, hs]
      have := endOf_rsigns k (at' + (rfirst b).2.toNat) (b.drop (rfirst b).2.toNat)
      simp only [endOf] at this
      rw [← this]
      congr 1
      omega
theorem rstop_le : ∀ (k at' : Nat) (b : List UInt8), rstop k at' b ≤ at' + b.length
  | 0, at', b => by simp [rstop]
  | k + 1, at', b => by
    simp only [rstop]
    split
    · omega
    · have hb := rfirst_bound b
      have := rstop_le k (at' + (rfirst b).2.toNat) (b.drop (rfirst b).2.toNat)
      rw [List.length_drop] at this
      omega
theorem rsigns_le : ∀ (k at' : Nat) (b : List UInt8), ∀ p ∈ rsigns k at' b, p.1 < at' + b.length
  | 0, at', b => by simp [rsigns]
  | k + 1, at', b => by
    intro p hp
    simp only [rsigns] at hp
    split at hp
    · simp at hp
    · have hb := rfirst_bound b
      rcases List.mem_cons.1 hp with rfl | hp
      · simp only []; omega
      · have := rsigns_le k (at' + (rfirst b).2.toNat) (b.drop (rfirst b).2.toNat) p hp
        rw [List.length_drop] at this
        omega

theorem rsigns_len : ∀ (k at' : Nat) (b : List UInt8), (rsigns k at' b).length ≤ k
  | 0, at', b => by simp [rsigns]
  | k + 1, at', b => by
    simp only [rsigns]
    split
    · simp
    · have := rsigns_len k (at' + (rfirst b).2.toNat) (b.drop (rfirst b).2.toNat)
      simp; omega
theorem rfirst_rune (b : List UInt8) : 0 ≤ (rfirst b).1 ∧ (rfirst b).1 < 1114112 := by
  cases b with
  | nil => simp [rfirst]
  | cons a l =>
    have ha := a.toNat_lt
    simp only [rfirst]
    split
    · simp only []; omega
    · split
      · simp
      · split
        · split
          · rename_i h
            have := h.1
            simp [runeSign] at this
            exact ⟨this.1.1, this.1.2⟩
          · simp
        · simp
theorem rsigns_rune : ∀ (k at' : Nat) (b : List UInt8), ∀ p ∈ rsigns k at' b, 0 ≤ p.2 ∧ p.2 < 1114112
  | 0, at', b => by simp [rsigns]
  | k + 1, at', b => by
    intro p hp
    simp only [rsigns] at hp
    split at hp
    · simp at hp
    · rcases List.mem_cons.1 hp with rfl | hp
      · exact rfirst_rune b
      · exact rsigns_rune k _ _ p hp
theorem endOf_take {b : List UInt8} {i : Nat} (hi : i < (allOf b).length) : endOf 0 ((allOf b).take (i + 1)) = ((allOf b)[i].1 : Int) + runeSize (allOf b)[i].2 := by
  rw [List.take_succ_eq_append_getElem hi]
  simp only [endOf, List.foldl_append, List.foldl_cons, List.foldl_nil]

theorem runes_Bad_call (h : RunesAll Γ A N) (hb : Has Γ A (f_runes_Bad N) (C_runes_Bad N)) {x : AV} {b : List UInt8} (H : Hp) (hx : VBytes H x b) (hl : b.length < 2 ^ 62) : (lim Γ A).call (f_runes_Bad N) [x] H = some (avInt .i64 (badOf b), none) := by
  apply hb.call (by rfl)
  have hlen := hx.len
  rw [List.length_map] at hlen
  have hall := runes_All_call h (hset (halloc { l := H.l, d := none } (.cells [AV.lit (.int .i64 0)] (t_int N))) H.l.length (some (.cells [AV.lit (.int .i64 0)] (t_int N)))) (x := x) (b := b) (Vw.loc hx (((Loc.start H).alloc _).set _))
  simp [C_runes_Bad, hall]
  refine wp_rangeFn (H0 := H) (os := [(H.l.length, .cells [avInt .i64 0] (t_int N))]) (by simp) (runes_All_gen h (x := x) hl) rfl (by simpa using ((Loc.start H).alloc (.cells [avInt .i64 0] (t_int N))).set (.cells [avInt .i64 0] (t_int N))) (by intro x hx; obtain ⟨p, _, rfl⟩ := List.mem_map.1 hx; rfl)
    (fun i os => os = [(H.l.length, .cells [avInt .i64 (endOf 0 ((allOf b).take i))] (t_int N))]) (fun _ _ => False) (fun _ _ _ _ _ hL _ => Vw.loc hx hL) (by simp [endOf]) ?_ ?_
  · rintro i hi l lo lb H' os' _ hL rfl
    simp only [List.length_map] at hi
    simp [L_runes_Bad_1, encS]
    refine ⟨_, hL, ?_⟩
    intro H1 hL1
    have a1 := hL1.get (p := (H.l.length, .cells [avInt .i64 (endOf 0 ((allOf b).take i))] (t_int N))) (by simp)
    simp only [] at a1
    have hle := rsigns_le _ _ _ _ (List.getElem_mem hi)
    have hsz : 1 ≤ runeSize (allOf b)[i].2 ∧ runeSize (allOf b)[i].2 ≤ 4 := by unfold runeSize; (repeat' split) <;> omega
    have hw : IntKind.wrap .i64 (((allOf b)[i].1 : Int) + runeSize (allOf b)[i].2) = endOf 0 ((allOf b).take (i + 1)) := by rw [wrap64 (by omega) (by omega), endOf_take hi]
    simp [L_runes_Bad_2, runes_size_call h.size, a1, hw]
    exact hL1.setMid (as := [_]) _
  · intro x H2 os2 hL hx
    rcases hx with ⟨rfl, rfl⟩ | ⟨_, hf⟩
    · have a1 := hL.head
      have he : endOf 0 ((allOf b).take ((allOf b).map encS).length) = stopOf b := by
        rw [List.length_map, List.take_length]; exact endOf_rsigns _ _ _
      rw [he] at a1
      by_cases hs : stopOf b = b.length
      · simp [K_runes_Bad_1, a1, hlen, hs, badOf]
        exact settle_keeps hL.keeps rfl
      · have hs' : ¬ (stopOf b : Int) = b.length := by omega
        simp [K_runes_Bad_1, a1, hlen, hs, hs', badOf]
        exact settle_keeps hL.keeps rfl
    · exact hf.elim

theorem runes_Count_call (h : RunesAll Γ A N) (hb : Has Γ A (f_runes_Count N) (C_runes_Count N)) {x : AV} {b : List UInt8} (H : Hp) (hx : VBytes H x b) (hl : b.length < 2 ^ 62) : (lim Γ A).call (f_runes_Count N) [x] H = some (avInt .i64 ((allOf b).length : Int), none) := by
  apply hb.call (by rfl)
  have hall := runes_All_call h (hset (halloc { l := H.l, d := none } (.cells [AV.lit (.int .i64 0)] (t_int N))) H.l.length (some (.cells [AV.lit (.int .i64 0)] (t_int N)))) (x := x) (b := b) (Vw.loc hx (((Loc.start H).alloc _).set _))
  simp [C_runes_Count, hall]
  refine wp_rangeFn (H0 := H) (os := [(H.l.length, .cells [avInt .i64 0] (t_int N))]) (by simp) (runes_All_gen h (x := x) hl) rfl (by simpa using ((Loc.start H).alloc (.cells [avInt .i64 0] (t_int N))).set (.cells [avInt .i64 0] (t_int N))) (by intro x hx; obtain ⟨p, _, rfl⟩ := List.mem_map.1 hx; rfl)
    (fun i os => i ≤ (allOf b).length ∧ os = [(H.l.length, .cells [avInt .i64 (i : Int)] (t_int N))]) (fun _ _ => False) (fun _ _ _ _ _ hL _ => Vw.loc hx hL) (by simp) ?_ ?_
  · rintro i hi l lo lb H' os' _ hL ⟨hil, rfl⟩
    simp only [List.length_map] at hi
    simp [L_runes_Count_1, encS]
    refine ⟨_, hL, ?_⟩
    intro H1 hL1
    have a1 := hL1.get (p := (H.l.length, .cells [avInt .i64 (i : Int)] (t_int N))) (by simp)
    simp only [] at a1
    have hll : (allOf b).length ≤ b.length := rsigns_len _ _ _
    have hw : IntKind.wrap .i64 ((i : Int) + 1) = ((i + 1 : Nat) : Int) := by rw [wrap64 (by omega) (by omega)]; omega
    simp [L_runes_Count_2, a1, hw, -Int.natCast_add]
    exact ⟨hL1.setMid (as := [_]) _, hi⟩
  · intro x H2 os2 hL hx
    rcases hx with ⟨rfl, _, rfl⟩ | ⟨_, hf⟩
    · have a1 := hL.head
      rw [List.length_map] at a1
      simp [K_runes_Count_1, a1]
      exact settle_keeps hL.keeps rfl
    · exact hf.elim
end
end Go.Proofs.Eng
/- The small functions of package lexer, run by the engine. -/
set_option linter.unusedVariables false
set_option linter.unusedSimpArgs false
set_option maxRecDepth 100000
namespace Go.Proofs.Eng
open Go
section
variable {Γ : Sums} {A : Tab} {N : Nat → Nat}

def isLow (c : UInt8) : Bool := decide (97 ≤ c.toNat) && decide (c.toNat ≤ 122) || decide (c.toNat = 95)
def isDigit (c : UInt8) : Bool := decide (48 ≤ c.toNat) && decide (c.toNat ≤ 57)
def isHigh (c : UInt8) : Bool := decide (65 ≤ c.toNat) && decide (c.toNat ≤ 90)
def isInName (c : UInt8) : Bool := isLow c || isDigit c
def isInAlias (c : UInt8) : Bool := isHigh c || isDigit c || (decide (97 ≤ c.toNat) && decide (c.toNat ≤ 122))
def notLine (c : UInt8) : Bool := !decide (c.toNat = 10)
def isBlank (c : UInt8) : Bool := decide (c.toNat = 32) || decide (c.toNat = 9) || decide (c.toNat = 10) || decide (c.toNat = 13)
def wordsL : List (List UInt8) := [[102, 117, 110], [108, 101, 116], [114, 101, 99], [105, 110], [105, 102], [116, 104, 101, 110], [101, 108, 115, 101], [99, 97, 115, 101], [111, 102], [101, 110, 100], [116, 114, 117, 101], [102, 97, 108, 115, 101], [105, 110, 116], [98, 111, 111, 108], [115, 116, 114], [102, 108, 111, 97, 116], [100, 121, 110], [97, 110, 121], [110, 111, 110, 101], [116, 121, 112, 101]]
def signsL : List (List UInt8) := [[61, 62], [45, 62], [61, 61], [46, 46], [43, 46], [45, 46], [42, 46], [47, 46], [60, 46], [40], [41], [123], [125], [91], [93], [44], [59], [58], [46], [61], [124], [43], [45], [42], [47], [60], [94]]

structure LexS (Γ : Sums) (A : Tab) (N : Nat → Nat) : Prop where
  low : Has Γ A (f_lexer_low N) (C_lexer_low N)
  high : Has Γ A (f_lexer_high N) (C_lexer_high N)
  digit : Has Γ A (f_lexer_digit N) (C_lexer_digit N)
  inName : Has Γ A (f_lexer_inName N) (C_lexer_inName N)
  inAlias : Has Γ A (f_lexer_inAlias N) (C_lexer_inAlias N)
  blank1 : Has Γ A (f_lexer_blank_1 N) (C_lexer_blank_1 N)
  run : Has Γ A (f_lexer_run N) (C_lexer_run N)
  words : Has Γ A (f_lexer_words N) (C_lexer_words N)
  signs : Has Γ A (f_lexer_signs N) (C_lexer_signs N)
  contains : Has Γ A (f_slices_Contains_sl_string_string N) (C_slices_Contains_sl_string_string N)
  index : Has Γ A (f_slices_Index_sl_string_string N) (C_slices_Index_sl_string_string N)
  isWord : Has Γ A (f_lexer_IsWord N) (C_lexer_IsWord N)
  isName : Has Γ A (f_lexer_IsName N) (C_lexer_IsName N)
  number : Has Γ A (f_lexer_number N) (C_lexer_number N)

theorem lexer_low_call (h : LexS Γ A N) (c : UInt8) (H : Hp) : (lim Γ A).call (f_lexer_low N) [avByte c] H = some (avBool (isLow c), none) := by
  apply h.low.call (by rfl)
  unfold isLow
  by_cases h1 : 97 ≤ c.toNat
  · have h1' : (97 : Int) ≤ c.toNat := by omega
    by_cases h2 : c.toNat ≤ 122
    · have h2' : (c.toNat : Int) ≤ 122 := by omega
      simp [C_lexer_low, avByte, h1, h1', h2, h2']
    · have h2' : ¬ (c.toNat : Int) ≤ 122 := by omega
      have h3 : ¬ c.toNat = 95 := by omega
      have h3' : ¬ (c.toNat : Int) = 95 := by omega
      simp [C_lexer_low, avByte, h1, h1', h2, h2', h3, h3']
  · have h1' : ¬ (97 : Int) ≤ c.toNat := by omega
    by_cases h3 : c.toNat = 95
    · have h3' : (c.toNat : Int) = 95 := by omega
      simp [C_lexer_low, avByte, h3, h3']
    · have h3' : ¬ (c.toNat : Int) = 95 := by omega
      simp [C_lexer_low, avByte, h1, h1', h3, h3']
theorem lexer_digit_call (h : LexS Γ A N) (c : UInt8) (H : Hp) : (lim Γ A).call (f_lexer_digit N) [avByte c] H = some (avBool (isDigit c), none) := by
  apply h.digit.call (by rfl)
  unfold isDigit
  by_cases h1 : 48 ≤ c.toNat
  · have h1' : (48 : Int) ≤ c.toNat := by omega
    by_cases h2 : c.toNat ≤ 57
    · have h2' : (c.toNat : Int) ≤ 57 := by omega
      simp [C_lexer_digit, avByte, h1, h1', h2, h2']
    · have h2' : ¬ (c.toNat : Int) ≤ 57 := by omega
      simp [C_lexer_digit, avByte, h1, h1', h2, h2']
  · have h1' : ¬ (48 : Int) ≤ c.toNat := by omega
    simp [C_lexer_digit, avByte, h1, h1']
theorem lexer_high_call (h : LexS Γ A N) (c : UInt8) (H : Hp) : (lim Γ A).call (f_lexer_high N) [avByte c] H = some (avBool (isHigh c), none) := by
  apply h.high.call (by rfl)
  unfold isHigh
  by_cases h1 : 65 ≤ c.toNat
  · have h1' : (65 : Int) ≤ c.toNat := by omega
    by_cases h2 : c.toNat ≤ 90
    · have h2' : (c.toNat : Int) ≤ 90 := by omega
      simp [C_lexer_high, avByte, h1, h1', h2, h2']
    · have h2' : ¬ (c.toNat : Int) ≤ 90 := by omega
      simp [C_lexer_high, avByte, h1, h1', h2, h2']
  · have h1' : ¬ (65 : Int) ≤ c.toNat := by omega
    simp [C_lexer_high, avByte, h1, h1']
theorem lexer_inName_call (h : LexS Γ A N) (c : UInt8) (H : Hp) : (lim Γ A).call (f_lexer_inName N) [avByte c] H = some (avBool (isInName c), none) := by
  apply h.inName.call (by rfl)
  unfold isInName
  have e1 := lexer_low_call h c
  have e2 := lexer_digit_call h c
  cases h1 : isLow c <;> rw [h1] at e1 <;> simp [C_lexer_inName, e1, e2]
theorem lexer_inAlias_call (h : LexS Γ A N) (c : UInt8) (H : Hp) : (lim Γ A).call (f_lexer_inAlias N) [avByte c] H = some (avBool (isInAlias c), none) := by
  apply h.inAlias.call (by rfl)
  unfold isInAlias
  have e1 := lexer_high_call h c
  have e2 := lexer_digit_call h c
  cases h1 : isHigh c <;> rw [h1] at e1
  · cases h2 : isDigit c <;> rw [h2] at e2
    · by_cases h3 : 97 ≤ c.toNat
      · have h3' : (97 : Int) ≤ c.toNat := by omega
        by_cases h4 : c.toNat ≤ 122
        · have h4' : (c.toNat : Int) ≤ 122 := by omega
          simp [C_lexer_inAlias, e1, e2, h3, h3', h4, h4']
        · have h4' : ¬ (c.toNat : Int) ≤ 122 := by omega
          simp [C_lexer_inAlias, e1, e2, h3, h3', h4, h4']
      · have h3' : ¬ (97 : Int) ≤ c.toNat := by omega
        simp [C_lexer_inAlias, e1, e2, h3, h3']
    · simp [C_lexer_inAlias, e1, e2]
  · simp [C_lexer_inAlias, e1, e2]
theorem lexer_blank1_call (h : LexS Γ A N) (c : UInt8) (H : Hp) : (lim Γ A).call (f_lexer_blank_1 N) [avByte c] H = some (avBool (notLine c), none) := by
  apply h.blank1.call (by rfl)
  unfold notLine
  by_cases h1 : c.toNat = 10
  · have h1' : (c.toNat : Int) = 10 := by omega
    simp [C_lexer_blank_1, avByte, h1, h1']
  · have h1' : ¬ (c.toNat : Int) = 10 := by omega
    simp [C_lexer_blank_1, avByte, h1, h1']

/-- How many of the first bytes may be. -/
def runB (p : UInt8 → Bool) (s : List UInt8) : Nat := (s.takeWhile p).length
theorem runB_le (p : UInt8 → Bool) (s : List UInt8) : runB p s ≤ s.length := (List.takeWhile_prefix p).length_le
theorem runB_take (p : UInt8 → Bool) (s : List UInt8) : s.take (runB p s) = s.takeWhile p := (List.prefix_iff_eq_take.1 (List.takeWhile_prefix p)).symm
theorem runB_drop (p : UInt8 → Bool) (s : List UInt8) (i : Nat) (h : (s.take i).all p = true) (hi : i ≤ s.length) : runB p s = i + runB p (s.drop i) := by
  induction i generalizing s with
  | zero => simp
  | succ i ih =>
    cases s with
    | nil => simp at hi
    | cons a s =>
      simp only [List.take_succ_cons, List.all_cons, Bool.and_eq_true] at h
      simp only [List.length_cons] at hi
      have := ih s h.2 (by omega)
      simp only [runB, List.takeWhile_cons, h.1, if_true, List.length_cons, List.drop_succ_cons] at this ⊢
      omega
theorem runB_stop {p : UInt8 → Bool} {a : UInt8} {s : List UInt8} (h : p a = false) : runB p (a :: s) = 0 := by simp [runB, h]

theorem lexer_run_call (h : LexS Γ A N) {g : FuncId} {p : UInt8 → Bool} (hp : ∀ c H, (lim Γ A).call g [avByte c] H = some (avBool (p c), none)) (s : List UInt8) (hs : s.length < 2 ^ 40) (H : Hp) :
    (lim Γ A).call (f_lexer_run N) [avStr s, .fn g [] []] H = some (avInt .i64 (runB p s : Nat), none) := by
  apply h.run.call (by rfl)
  simp [C_lexer_run, -Int.natCast_add]
  refine wp_round (fun k ρ H' => H' = { l := H.l, d := none } ∧ ∃ i : Nat, ρ 0 = avStr s ∧ ρ 1 = .fn g [] [] ∧ ρ 5 = avInt .i64 i ∧ i ≤ s.length ∧ (s.take i).all p = true ∧ k = s.length - i) (n := s.length) ⟨rfl, 0, rfl, rfl, rfl, by omega, by simp, rfl⟩ ?_
  rintro k ρ H' ⟨rfl, i, h0, h1, h5, hi, ha, rfl⟩
  have hrd := runB_drop p s i ha hi
  by_cases hl : i < s.length
  · have hl' : (i : Int) < s.length := by omega
    have hx := asidx_nat (k := .i64) hl
    have hd : s.drop i = s[i] :: s.drop (i + 1) := List.drop_eq_getElem_cons hl
    cases hc : p s[i]
    · have e := hp s[i]
      rw [hc] at e
      have : runB p s = i := by rw [hrd, hd, runB_stop hc]; omega
      simp [L_lexer_run_1, K_lexer_run_1, h0, h1, h5, hl', hx, e, this]
    · have e := hp s[i]
      rw [hc] at e
      have hw : IntKind.wrap .i64 ((i : Int) + 1) = ((i + 1 : Nat) : Int) := by rw [wrap64 (by omega) (by omega)]; omega
      simp [L_lexer_run_1, h0, h1, h5, hl', hx, e, hw, -Int.natCast_add]
      refine ⟨_, ?_, i + 1, rfl, by omega, ?_, rfl⟩
      · omega
      · have ha2 : (s.take (i + 1)).all p = true := by rw [List.take_succ_eq_append_getElem hl, List.all_append, ha]; simp [hc]
        exact List.all_eq_true.1 ha2
  · have hl' : ¬ (i : Int) < s.length := by omega
    have hi' : i = s.length := by omega
    have : runB p s = i := by rw [hrd, List.drop_of_length_le (by omega)]; simp [runB]
    simp [L_lexer_run_1, K_lexer_run_1, h0, h1, h5, hl', this]

theorem lexer_words_call (h : LexS Γ A N) (H : Hp) : (lim Γ A).call (f_lexer_words N) [] H = some (.sl 1 (wordsL.map avStr), none) := by
  apply h.words.call (by rfl)
  simp [C_lexer_words, wordsL]
  exact settleZ_ra rfl rfl (by simp)
theorem lexer_signs_call (h : LexS Γ A N) (H : Hp) : (lim Γ A).call (f_lexer_signs N) [] H = some (.sl 1 (signsL.map avStr), none) := by
  apply h.signs.call (by rfl)
  simp [C_lexer_signs, signsL]
  exact settleZ_ra rfl rfl (by simp)

/-! ### Words -/
theorem aiaddr_sln {sz : Nat} {xs : List AV} {k : IntKind} {i : Nat} {x : AV} (h : xs[i]? = some x) (hg : x.good = true) : aiaddr sz (.sl sz xs) (.lit (.int k i)) = some (.vp x.cells) := by
  simp [aiaddr, h, hg]
theorem index_call (h : LexS Γ A N) (l : List (List UInt8)) (s : List UInt8) (hl : l.length < 1000) (H : Hp) :
    ∃ i : Int, (lim Γ A).call (f_slices_Index_sl_string_string N) [.sl 1 (l.map avStr), avStr s] H = some (avInt .i64 i, none) ∧ (0 ≤ i ↔ s ∈ l) := by
  obtain ⟨R, hR⟩ : ∃ R : AV × Option Hp → Prop, R = fun r => ∃ i : Int, r = (avInt .i64 i, none) ∧ (0 ≤ i ↔ s ∈ l) := ⟨_, rfl⟩
  have key : ∃ r, (lim Γ A).call (f_slices_Index_sl_string_string N) [.sl 1 (l.map avStr), avStr s] H = some r ∧ R r := by
    apply h.index.callP (by rfl)
    simp [C_slices_Index_sl_string_string, asLen, -Int.natCast_add]
    refine wp_round (fun k ρ H' => H' = { l := H.l, d := none } ∧ ∃ i : Nat, ρ 0 = .sl 1 (l.map avStr) ∧ ρ 1 = avStr s ∧ ρ 7 = avInt .i64 l.length ∧ ρ 8 = avInt .i64 i ∧ i ≤ l.length ∧ (s ∉ l.take i) ∧ k = l.length - i) (n := l.length)
      ⟨rfl, 0, rfl, rfl, by simp, rfl, by omega, by simp, rfl⟩ ?_
    rintro k ρ H' ⟨rfl, i, h0, h1, h7, h8, hi, hn, rfl⟩
    by_cases hlt : i < l.length
    · have hlt' : (i : Int) < l.length := by omega
      have ha := aiaddr_sln (sz := 1) (xs := l.map avStr) (k := .i64) (i := i) (x := avStr l[i]) (by simp [hlt]) rfl
      by_cases he : s = l[i]
      · have hm : s ∈ l := by rw [he]; exact List.getElem_mem hlt
        simp [L_slices_Index_sl_string_string_1, h0, h1, h7, h8, hlt', ha, aload, he]
        rw [hR]
        refine ⟨i, rfl, ?_⟩
        simp [hm]
      · have hw : IntKind.wrap .i64 ((i : Int) + 1) = ((i + 1 : Nat) : Int) := by rw [wrap64 (by omega) (by omega)]; omega
        simp [L_slices_Index_sl_string_string_1, h0, h1, h7, h8, hlt', ha, aload, he, hw, -Int.natCast_add]
        refine ⟨_, ?_, i + 1, rfl, by omega, ?_, rfl⟩
        · omega
        · intro hm
          rw [List.take_succ_eq_append_getElem hlt] at hm
          rcases List.mem_append.1 hm with hm | hm
          · exact hn hm
          · exact he (List.mem_singleton.1 hm)
    · have hlt' : ¬ (i : Int) < l.length := by omega
      have hi' : i = l.length := by omega
      subst hi'
      simp only [List.take_length] at hn
      simp [L_slices_Index_sl_string_string_1, K_slices_Index_sl_string_string_1, h0, h1, h7, h8]
      rw [hR]
      refine ⟨-1, rfl, ?_⟩
      simp [hn]
  obtain ⟨r, e, hr⟩ := key
  rw [hR] at hr
  obtain ⟨i, rfl, hi⟩ := hr
  exact ⟨i, e, hi⟩

def isWordB (s : List UInt8) : Bool := decide (s ∈ wordsL)
theorem lexer_IsWord_call (h : LexS Γ A N) (s : List UInt8) (H : Hp) : (lim Γ A).call (f_lexer_IsWord N) [avStr s] H = some (avBool (isWordB s), none) := by
  apply h.isWord.call (by rfl)
  obtain ⟨i, e1, e2⟩ := index_call h wordsL s (by decide) { l := H.l, d := none }
  have e3 : (lim Γ A).call (f_slices_Contains_sl_string_string N) [.sl 1 (wordsL.map avStr), avStr s] { l := H.l, d := none } = some (avBool (isWordB s), none) := by
    apply h.contains.call (by rfl)
    simp [C_slices_Contains_sl_string_string, e1, isWordB, e2]
  simp only [C_lexer_IsWord]
  simp [lexer_words_call h, e3]

/-- Is it a name? -/
def isNameB (s : List UInt8) : Bool := !s.isEmpty && (s.head?.map isLow).getD false && decide (runB isInName s = s.length) && !isWordB s
theorem lexer_IsName_call (h : LexS Γ A N) (s : List UInt8) (hs : s.length < 2 ^ 40) (H : Hp) : (lim Γ A).call (f_lexer_IsName N) [avStr s] H = some (avBool (isNameB s), none) := by
  apply h.isName.call (by rfl)
  unfold isNameB
  cases s with
  | nil => simp [C_lexer_IsName]
  | cons c t =>
    have hx := asidx_nat (k := .i64) (s := c :: t) (i := 0) (by simp)
    simp only [List.getElem_cons_zero, Int.natCast_zero] at hx
    have e1 := lexer_low_call h c
    have e2 := lexer_run_call h (lexer_inName_call h) (c :: t) hs
    have e3 := lexer_IsWord_call h (c :: t)
    cases h1 : isLow c <;> rw [h1] at e1
    · simp [C_lexer_IsName, hx, e1, h1]
    · by_cases h2 : runB isInName (c :: t) = t.length + 1
      · have h2' : (runB isInName (c :: t) : Int) = (t.length : Int) + 1 := by omega
        simp [C_lexer_IsName, hx, e1, h1, e2, e3, h2, h2']
      · have h2' : ¬ (runB isInName (c :: t) : Int) = (t.length : Int) + 1 := by omega
        simp [C_lexer_IsName, hx, e1, h1, e2, e3, h2, h2']

/-! ### Numbers -/
def greatest : List UInt8 := [57, 50, 50, 51, 51, 55, 50, 48, 51, 54, 56, 53, 52, 55, 55, 53, 56, 48, 55]
def numberB (s : List UInt8) : Bool := !(decide (1 < s.length) && (s.head?.map fun c => decide (c.toNat = 48)).getD false) && (decide (s.length < 19) || decide (s.length = 19) && (Op.bytesLess s greatest || s == greatest))
theorem lexer_number_call (h : LexS Γ A N) (s : List UInt8) (H : Hp) : (lim Γ A).call (f_lexer_number N) [avStr s] H = some (avBool (numberB s), none) := by
  apply h.number.call (by rfl)
  unfold numberB
  by_cases h1 : 1 < s.length
  · have h1' : (1 : Int) < s.length := by omega
    obtain ⟨c, hh, hx⟩ : ∃ c, s.head? = some c ∧ asidx (avStr s) (.lit (.int .i64 0)) = some (avByte c) := by
      cases s with
      | nil => simp at h1
      | cons c t => exact ⟨c, rfl, asidx_nat (k := .i64) (s := c :: t) (i := 0) (by simp)⟩
    by_cases h2 : c.toNat = 48
    · have h2' : (c.toNat : Int) = 48 := by omega
      simp [C_lexer_number, hx, hh, h1, h1', h2, h2']
    · have h2' : ¬ (c.toNat : Int) = 48 := by omega
      by_cases h3 : s.length < 19
      · have h3' : (s.length : Int) < 19 := by omega
        simp [C_lexer_number, hx, hh, h1, h1', h2, h2', h3, h3']
      · have h3' : ¬ (s.length : Int) < 19 := by omega
        by_cases h4 : s.length = 19
        · have h4' : (s.length : Int) = 19 := by omega
          simp [C_lexer_number, hx, hh, h2, h2', h4, h4', greatest]
        · have h4' : ¬ (s.length : Int) = 19 := by omega
          simp [C_lexer_number, hx, hh, h1, h1', h2, h2', h3, h3', h4, h4', greatest]
  · have h1' : ¬ (1 : Int) < s.length := by omega
    have h3 : s.length < 19 := by omega
    have h3' : (s.length : Int) < 19 := by omega
    simp [C_lexer_number, h1, h1', h3, h3']
end
end Go.Proofs.Eng
/- Floats' texts, strings' texts, blanks, run by the engine. -/
set_option linter.unusedVariables false
set_option linter.unusedSimpArgs false
set_option maxRecDepth 100000
namespace Go.Proofs.Eng
open Go
section
variable {Γ : Sums} {A : Tab} {N : Nat → Nat}

/-- What the library's functions are that the lexer calls. -/
structure LexT (Γ : Sums) (A : Tab) (N : Nat → Nat) : Prop where
  strs : Strs Γ A N
  cut : Has Γ A (f_strings_CutPrefix N) (C_strings_CutPrefix N)
  cut' : Has Γ A (f_internal_stringslite_CutPrefix N) (C_internal_stringslite_CutPrefix N)
  idx : Has Γ A (f_strings_IndexByte N) (C_strings_IndexByte N)
  idx' : Has Γ A (f_internal_stringslite_IndexByte N) (C_internal_stringslite_IndexByte N)
  idxS : ∀ s c H, (lim Γ A).call (f_internal_bytealg_IndexByteString N) [avStr s, avByte c] H = some (avInt .i64 (idxOf (mkS s) c.toNat), none)
  bits : ∀ n H, (lim Γ A).call (f_math_Float64frombits N) [avInt .u64 n] H = some (.lit (.float .f64 n.toNat), none)
  of : Has Γ A (f_floats_Of N) (C_floats_Of N)
  parse : Has Γ A (f_floats_Parse N) (C_floats_Parse N)
  float : Has Γ A (f_lexer_float N) (C_lexer_float N)
  text : Has Γ A (f_lexer_text N) (C_lexer_text N)
  blank : Has Γ A (f_lexer_blank N) (C_lexer_blank N)

theorem IndexByte_call (h : LexT Γ A N) (s : List UInt8) (c : UInt8) (H : Hp) : (lim Γ A).call (f_strings_IndexByte N) [avStr s, avByte c] H = some (avInt .i64 (idxOf (mkS s) c.toNat), none) := by
  have e : ∀ H, (lim Γ A).call (f_internal_stringslite_IndexByte N) [avStr s, avByte c] H = some (avInt .i64 (idxOf (mkS s) c.toNat), none) := by
    intro H
    apply h.idx'.call (by rfl)
    simp [C_internal_stringslite_IndexByte, h.idxS]
  apply h.idx.call (by rfl)
  simp [C_strings_IndexByte, e]
theorem CutPrefix_call (h : LexT Γ A N) (s t : List UInt8) (H : Hp) : (lim Γ A).call (f_strings_CutPrefix N) [avStr s, avStr t] H = some (if t.isPrefixOf s = true then .tup [avStr (s.drop t.length), avBool true] else .tup [avStr s, avBool false], none) := by
  have e : ∀ H, (lim Γ A).call (f_internal_stringslite_CutPrefix N) [avStr s, avStr t] H = some (if t.isPrefixOf s = true then .tup [avStr (s.drop t.length), avBool true] else .tup [avStr s, avBool false], none) := by
    intro H
    apply h.cut'.call (by rfl)
    cases hp : t.isPrefixOf s
    · simp [C_internal_stringslite_CutPrefix, slite_HasPrefix_call h.strs.has', hp]
    · have hl : t.length ≤ s.length := (List.isPrefixOf_iff_prefix.1 hp).length_le
      have e := aslstr_from (k := .i64) (s := s) (i := (t.length : Int)) (by omega) (by simpa using hl)
      simp only [Int.toNat_natCast] at e
      simp [C_internal_stringslite_CutPrefix, slite_HasPrefix_call h.strs.has', hp, e]
  apply h.cut.call (by rfl)
  cases hp : t.isPrefixOf s
  · rw [hp] at e
    simp only [Bool.false_eq_true, if_false] at e
    simp [C_strings_CutPrefix, e, hp]
  · rw [hp] at e
    simp only [if_true] at e
    simp [C_strings_CutPrefix, e, hp]

def isHex (c : UInt8) : Bool := isDigit c || (decide (97 ≤ c.toNat) && decide (c.toNat ≤ 102))
theorem idx_hex (c : UInt8) : decide (0 ≤ idxOf (mkS [48, 49, 50, 51, 52, 53, 54, 55, 56, 57, 97, 98, 99, 100, 101, 102]) c.toNat) = isHex c := by
  have := all256 (p := fun c => decide (decide (0 ≤ idxOf (mkS [48, 49, 50, 51, 52, 53, 54, 55, 56, 57, 97, 98, 99, 100, 101, 102]) c.toNat) = isHex c)) (by decide +kernel) c
  simpa only [decide_eq_true_eq] using this
theorem idx_blank (c : UInt8) : decide (0 ≤ idxOf (mkS [32, 9, 10, 13]) c.toNat) = isBlank c := by
  have := all256 (p := fun c => decide (decide (0 ≤ idxOf (mkS [32, 9, 10, 13]) c.toNat) = isBlank c)) (by decide +kernel) c
  simpa only [decide_eq_true_eq] using this
/-- What a sign behind a stroke stands for. -/
def escB (c : UInt8) : Option UInt8 := if c.toNat = 34 then some 34 else if c.toNat = 92 then some 92 else if c.toNat = 110 then some 10 else none
theorem idx_esc (c : UInt8) : match escB c with
    | none => idxOf (mkS [34, 92, 110]) c.toNat < 0
    | some d => 0 ≤ idxOf (mkS [34, 92, 110]) c.toNat ∧ asidx (avStr [34, 92, 10]) (avInt .i64 (idxOf (mkS [34, 92, 110]) c.toNat)) = some (avByte d) := by
  have h : ∀ c : UInt8, escB c = none ∧ idxOf (mkS [34, 92, 110]) c.toNat = -1 ∨ escB c = some 34 ∧ idxOf (mkS [34, 92, 110]) c.toNat = 0 ∨ escB c = some 92 ∧ idxOf (mkS [34, 92, 110]) c.toNat = 1 ∨ escB c = some 10 ∧ idxOf (mkS [34, 92, 110]) c.toNat = 2 := by
    intro c
    have := all256 (p := fun c => decide (escB c = none ∧ idxOf (mkS [34, 92, 110]) c.toNat = -1 ∨ escB c = some 34 ∧ idxOf (mkS [34, 92, 110]) c.toNat = 0 ∨ escB c = some 92 ∧ idxOf (mkS [34, 92, 110]) c.toNat = 1 ∨ escB c = some 10 ∧ idxOf (mkS [34, 92, 110]) c.toNat = 2)) (by decide +kernel) c
    simpa only [decide_eq_true_eq] using this
  rcases h c with ⟨e, i⟩ | ⟨e, i⟩ | ⟨e, i⟩ | ⟨e, i⟩ <;> rw [e, i]
  · decide
  · exact ⟨by decide, rfl⟩
  · exact ⟨by decide, rfl⟩
  · exact ⟨by decide, rfl⟩

theorem floats_Of_call (h : LexT Γ A N) (n : Int) (H : Hp) : ∃ m : Int, (lim Γ A).call (f_floats_Of N) [avInt .u64 n] H = some (avInt .u64 m, none) := by
  obtain ⟨R, hR⟩ : ∃ R : AV × Option Hp → Prop, R = fun r => ∃ m : Int, r = (avInt .u64 m, none) := ⟨_, rfl⟩
  have key : ∃ r, (lim Γ A).call (f_floats_Of N) [avInt .u64 n] H = some r ∧ R r := by
    apply h.of.callP (by rfl)
    simp [C_floats_Of, h.bits]
    have e : aeq .pfloat (.lit (.float .f64 n.toNat)) (.lit (.float .f64 n.toNat)) = some (Op.floatEq .f64 n.toNat n.toNat) := by simp [aeq, aprim, eqFl]
    rw [e, bindO_some]
    cases Op.floatEq .f64 n.toNat n.toNat
    · simp; rw [hR]; exact ⟨_, rfl⟩
    · simp; rw [hR]; exact ⟨_, rfl⟩
  obtain ⟨r, e, hr⟩ := key
  rw [hR] at hr
  obtain ⟨m, rfl⟩ := hr
  exact ⟨m, e⟩

def parseOk (s : List UInt8) : Bool := [102, 39].isPrefixOf s && decide (s.length = 18) && (s.drop 2).all isHex
theorem floats_Parse_call (h : LexT Γ A N) (s : List UInt8) (hs : s.length < 2 ^ 40) (H : Hp) :
    ∃ m : Int, (lim Γ A).call (f_floats_Parse N) [avStr s] H = some (.tup [avInt .u64 m, avInt .i64 (if parseOk s = true then 0 else 14)], none) := by
  obtain ⟨R, hR⟩ : ∃ R : AV × Option Hp → Prop, R = fun r => ∃ m : Int, r = (.tup [avInt .u64 m, avInt .i64 (if parseOk s = true then 0 else 14)], none) := ⟨_, rfl⟩
  have key : ∃ r, (lim Γ A).call (f_floats_Parse N) [avStr s] H = some r ∧ R r := by
    apply h.parse.callP (by rfl)
    have hcut := CutPrefix_call h s [102, 39]
    cases hp : [102, 39].isPrefixOf s
    · rw [hp] at hcut
      simp only [Bool.false_eq_true, if_false] at hcut
      simp [C_floats_Parse, hcut]
      rw [hR]
      exact ⟨0, by simp [parseOk, hp]⟩
    · rw [hp] at hcut
      simp only [if_true, List.length_cons, List.length_nil] at hcut
      have h2 : 2 ≤ s.length := by simpa using (List.isPrefixOf_iff_prefix.1 hp).length_le
      have hdl : (s.drop 2).length = s.length - 2 := by simp
      by_cases hl : s.length = 18
      · have hdl' : (s.drop 2).length = 16 := by omega
        have hdl2 : ((s.drop 2).length : Int) = 16 := by omega
        generalize hr : s.drop 2 = r at *
        simp [C_floats_Parse, hcut, hr, hdl', hdl2]
        refine wp_round (fun k ρ H' => H' = { l := H.l, d := none } ∧ ∃ (i : Nat) (m : Int), ρ 0 = avStr r ∧ ρ 5 = avInt .u64 m ∧ ρ 21 = avInt .i64 16 ∧ ρ 22 = avInt .i64 i ∧ i ≤ 16 ∧ (r.take i).all isHex = true ∧ k = 16 - i) (n := 16)
          ⟨rfl, 0, 0, rfl, rfl, by simp, rfl, by omega, by simp, rfl⟩ ?_
        rintro k ρ H' ⟨rfl, i, m, h0, h5, h21, h22, hi, ha, rfl⟩
        by_cases hlt : i < 16
        · have hlt' : (i : Int) < 16 := by omega
          have hlr : i < r.length := by omega
          have hx := asidx_nat (k := .i64) hlr
          have hix := idx_hex r[i]
          have hib := fun s c => IndexByte_call h s c
          cases hc : isHex r[i]
          · rw [hc, decide_eq_false_iff_not] at hix
            have hix' : idxOf (mkS [48, 49, 50, 51, 52, 53, 54, 55, 56, 57, 97, 98, 99, 100, 101, 102]) r[i].toNat < 0 := by omega
            simp [L_floats_Parse_1, h0, h5, h21, h22, hlt', hx, hib, hix']
            rw [hR]
            refine ⟨0, ?_⟩
            have : r.all isHex = false := by
              rw [Bool.eq_false_iff]
              intro hA
              rw [List.all_eq_true] at hA
              rw [hA _ (List.getElem_mem hlr)] at hc
              simp at hc
            simp [parseOk, hp, hl, hr, this]
          · rw [hc, decide_eq_true_eq] at hix
            have hix' : ¬ idxOf (mkS [48, 49, 50, 51, 52, 53, 54, 55, 56, 57, 97, 98, 99, 100, 101, 102]) r[i].toNat < 0 := by omega
            have hw : IntKind.wrap .i64 ((i : Int) + 1) = ((i + 1 : Nat) : Int) := by rw [wrap64 (by omega) (by omega)]; omega
            simp [L_floats_Parse_1, h0, h5, h21, h22, hlt', hx, hib, hix', hw, -Int.natCast_add]
            refine ⟨_, ?_, i + 1, rfl, by omega, ?_, rfl⟩
            · omega
            · have ha2 : (r.take (i + 1)).all isHex = true := by rw [List.take_succ_eq_append_getElem hlr, List.all_append, ha]; simp [hc]
              exact List.all_eq_true.1 ha2
        · have hlt' : ¬ (i : Int) < 16 := by omega
          have hi' : i = 16 := by omega
          obtain ⟨m2, hof⟩ := floats_Of_call h m { l := H.l, d := none }
          simp [L_floats_Parse_1, K_floats_Parse_1, h0, h5, h21, h22, hlt', hof]
          rw [hR]
          refine ⟨m2, ?_⟩
          rw [List.take_of_length_le (by omega)] at ha
          simp [parseOk, hp, hl, hr, ha]
      · have hdl2 : ¬ ((s.drop 2).length : Int) = 16 := by omega
        generalize hr : s.drop 2 = r at *
        simp [C_floats_Parse, hcut, hdl2]
        rw [hR]
        exact ⟨0, by simp [parseOk, hl]⟩
  obtain ⟨r, e, hr⟩ := key
  rw [hR] at hr
  obtain ⟨m, rfl⟩ := hr
  exact ⟨m, e⟩

/-- A float's text at the head. -/
def floatOk (s : List UInt8) : Bool := [102, 39].isPrefixOf s && decide (18 ≤ s.length) && ((s.drop 2).take 16).all isHex
def floatT (s : List UInt8) : List UInt8 := if s.length < 18 then [] else s.take 18
theorem floatT_ok {s : List UInt8} (h : floatOk s = true) : floatT s = s.take 18 := by
  simp only [floatOk, Bool.and_eq_true, decide_eq_true_eq] at h
  unfold floatT
  rw [if_neg (by omega)]
theorem lexer_float_call (h : LexT Γ A N) (s : List UInt8) (hs : s.length < 2 ^ 40) (H : Hp) :
    (lim Γ A).call (f_lexer_float N) [avStr s] H = some (.tup [avStr (floatT s), avBool (floatOk s)], none) := by
  by_cases hl : s.length < 18
  · have hl' : (s.length : Int) < 18 := by omega
    have hl2 : ¬ 18 ≤ s.length := by omega
    apply h.float.call (by rfl)
    simp [C_lexer_float, hl', floatOk, hl2, floatT, hl]
  · have hl' : ¬ (s.length : Int) < 18 := by omega
    have hl2 : 18 ≤ s.length := by omega
    apply h.float.call (by rfl)
    have hc := aslstr_upto (k := .i64) (s := s) (j := 18) (by omega) (by simpa using hl2)
    have e18 : (18 : Int).toNat = 18 := rfl
    rw [e18] at hc
    obtain ⟨m, hp⟩ := floats_Parse_call h (s.take 18) (by simp; omega) { l := H.l, d := none }
    have hpe : parseOk (s.take 18) = floatOk s := by
      unfold parseOk floatOk
      have e1 : [102, 39].isPrefixOf (s.take 18) = [102, 39].isPrefixOf s := by
        rw [Bool.eq_iff_iff, List.isPrefixOf_iff_prefix, List.isPrefixOf_iff_prefix, List.prefix_take_iff]
        simp
      have e2 : (s.take 18).length = 18 := by simp; omega
      rw [e1, e2, List.drop_take]
      simp [hl2]
    rw [hpe] at hp
    cases hf : floatOk s <;> rw [hf] at hp <;> simp [C_lexer_float, hl', hc, hp, floatT, hl]
end
end Go.Proofs.Eng
/- Strings' texts, run by the engine. -/
set_option linter.unusedVariables false
set_option linter.unusedSimpArgs false
set_option maxRecDepth 100000
namespace Go.Proofs.Eng
open Go
section
variable {Γ : Sums} {A : Tab} {N : Nat → Nat}

theorem Row.push {e e' : TypeId} {sz bytes : Nat} {x y : AV} {es : List AV} {os r : List (Nat × AObj)} {H0 H : Hp} (h : Row e sz x es os) (hl : Loc H0 H (os ++ r)) (hb : (es.length + 1) * bytes ≤ roomMax) (hg : (y.good && y.cells.length == sz) = true) :
    asElems (halloc H (.arr sz [y] e')) (.ra sz H.l.length 0 1) = some [y] ∧
    ∃ v H' os', appendOn (halloc H (.arr sz [y] e')) e sz bytes x [y] = some (v, some H') ∧ Row e sz v (es ++ [y]) os' ∧ Loc H0 H' (os' ++ r) := by
  refine ⟨by simp [asElems], ?_⟩
  have hL1 := (hl.alloc (.arr sz [y] e')).perm (os' := os ++ (H.l.length, .arr sz [y] e') :: r) List.perm_middle.symm
  obtain ⟨v, H', os', a1, a2, a3⟩ := h.append (bytes := bytes) (ys := [y]) hL1 (by simp) (by simpa using hb) (by simpa using hg)
  refine ⟨v, H', os', a1, a2, a3.sub (List.Sublist.append (List.Sublist.refl _) ((List.Sublist.refl _).cons _))⟩

def textB : List UInt8 → Option (List UInt8 × Nat)
  | [] => none
  | c :: r =>
    if c.toNat = 34 then some ([], 1)
    else if c.toNat < 32 then none
    else if c.toNat = 92 then
      match r with
      | [] => none
      | d :: r' => match escB d with
        | none => none
        | some e => (textB r').map fun q => (e :: q.1, q.2 + 2)
    else (textB r).map fun q => (c :: q.1, q.2 + 1)

theorem textB_cons (c : UInt8) (r : List UInt8) : textB (c :: r) = if c.toNat = 34 then some ([], 1) else if c.toNat < 32 then none else if c.toNat = 92 then (match r with | [] => none | d :: r' => match escB d with | none => none | some e => (textB r').map fun q => (e :: q.1, q.2 + 2)) else (textB r).map fun q => (c :: q.1, q.2 + 1) := by
  rw [textB.eq_def]
theorem textB_le : ∀ (s : List UInt8) {t : List UInt8} {n : Nat}, textB s = some (t, n) → 1 ≤ n ∧ n ≤ s.length
  | [], t, n, h => by simp [textB] at h
  | c :: r, t, n, h => by
    unfold textB at h
    split at h
    · simp only [Option.some.injEq, Prod.mk.injEq] at h; simp; omega
    · split at h
      · simp at h
      · split at h
        · match r, h with
          | d :: r', h =>
            simp only [] at h
            split at h
            · simp at h
            · simp only [Option.map_eq_some_iff, Prod.mk.injEq, Prod.exists] at h
              obtain ⟨t', n', h1, h2, h3⟩ := h
              have := textB_le r' h1
              simp; omega
        · simp only [Option.map_eq_some_iff, Prod.mk.injEq, Prod.exists] at h
          obtain ⟨t', n', h1, h2, h3⟩ := h
          have := textB_le r h1
          simp; omega

def textV (s : List UInt8) : AV := match textB s with | none => .tup [avStr [], avInt .i64 (-1)] | some (t, n) => .tup [avStr t, avInt .i64 n]

theorem lexer_text_call (h : LexT Γ A N) (s : List UInt8) (hs : s.length < 2 ^ 36) (H : Hp) : (lim Γ A).call (f_lexer_text N) [avStr s] H = some (textV s, none) := by
  obtain ⟨R, hR⟩ : ∃ R : AV × Option Hp → Prop, R = fun r => r = (textV s, none) := ⟨_, rfl⟩
  have key : ∃ r, (lim Γ A).call (f_lexer_text N) [avStr s] H = some r ∧ R r := by
    apply h.text.callP (by rfl)
    simp [C_lexer_text]
    refine wp_round (fun k ρ H' => ∃ (i : Nat) (pre : List UInt8) (p : AV) (os : List (Nat × AObj)), ρ 0 = avStr s ∧ ρ 4 = p ∧ ρ 5 = avInt .i64 i ∧ i ≤ s.length ∧ pre.length ≤ i ∧ Row (t_uint8 N) 1 p (pre.map avByte) os ∧ Loc H H' (os ++ []) ∧
        textB s = (textB (s.drop i)).map (fun q => (pre ++ q.1, q.2 + i)) ∧ k = s.length - i) (n := s.length) ?_ ?_
    · refine ⟨0, [], _, [], rfl, rfl, rfl, by omega, by simp, Row.nil _ _, Loc.start H, ?_, rfl⟩
      simp
    · rintro k ρ H' ⟨i, pre, p, os, h0, h4, h5, hi, hpl, hp, hL, ht, rfl⟩
      have bad : textB s = none → R (settle H (.tup [avStr [], avInt .i64 (-1)]) H') := by
        intro e
        rw [settle_keeps (v := .tup [avStr [], avInt .i64 (-1)]) hL.keeps (by simp), hR]
        simp [textV, e]
      by_cases hlt : i < s.length
      · have hlt' : (i : Int) < s.length := by omega
        have hx := asidx_nat (k := .i64) hlt
        have hd : s.drop i = s[i] :: s.drop (i + 1) := List.drop_eq_getElem_cons hlt
        generalize hc : s[i] = c at *
        rw [hd] at ht
        have hw : IntKind.wrap .i64 ((i : Int) + 1) = ((i + 1 : Nat) : Int) := by rw [wrap64 (by omega) (by omega)]; omega
        by_cases c34 : c.toNat = 34
        · have c34' : (c.toNat : Int) = 34 := by omega
          have ht2 : textB s = some (pre, 1 + i) := by rw [ht]; simp [textB_cons, c34]
          have he := Row.elems hp hL
          have hk := settle_keeps (v := .tup [avStr pre, avInt .i64 ((1 + i : Nat) : Int)]) hL.keeps (by simp)
          rw [Nat.add_comm] at hk
          simp [L_lexer_text_1, h0, h4, h5, hlt', hx, c34', he, hw, hk, -Int.natCast_add]
          rw [hR]
          simp [textV, ht2]
          omega
        · have c34' : ¬ (c.toNat : Int) = 34 := by omega
          by_cases c32 : c.toNat < 32
          · have c32' : (c.toNat : Int) < 32 := by omega
            simp [L_lexer_text_1, h0, h4, h5, hlt', hx, c34', c32']
            refine bad ?_
            rw [ht]; simp [textB_cons, c34, c32]
          · have c32' : ¬ (c.toNat : Int) < 32 := by omega
            by_cases c92 : c.toNat = 92
            · have c92' : (c.toNat : Int) = 92 := by omega
              have hw2 : IntKind.wrap .i64 (((i + 1 : Nat) : Int) + 1) = ((i + 2 : Nat) : Int) := by rw [wrap64 (by omega) (by omega)]; omega
              by_cases hlt2 : i + 1 < s.length
              · have hlt2' : ((i + 1 : Nat) : Int) < s.length := by omega
                have hx2 := asidx_nat (k := .i64) hlt2
                have hd2 : s.drop (i + 1) = s[i + 1] :: s.drop (i + 2) := List.drop_eq_getElem_cons hlt2
                have hib := fun s c => IndexByte_call h s c
                have hes := idx_esc s[i + 1]
                rw [hd2] at ht
                generalize hcd : s[i + 1] = d at *
                cases hed : escB d with
                | none =>
                  rw [hed] at hes
                  simp only [] at hes
                  simp [L_lexer_text_1, h0, h4, h5, hlt', hx, c34', c32', c92', hw, hlt2', hx2, hib, hes, -Int.natCast_add]
                  refine bad ?_
                  rw [ht]; simp [textB_cons, c34, c32, c92, hed]
                | some f =>
                  rw [hed] at hes
                  simp only [] at hes
                  have hes1 : ¬ idxOf (mkS [34, 92, 110]) d.toNat < 0 := by omega
                  obtain ⟨q0, v, H2, os', q1, q2, q3⟩ := hp.push (e' := t_uint8 N) (bytes := 1) (y := avByte f) hL (by simp [roomMax]; omega) (by simp)
                  simp [L_lexer_text_1, h0, h4, h5, hlt', hx, c34', c32', c92', hw, hw2, hlt2', hx2, hib, hes1, hes.2, q0, q1, -Int.natCast_add]
                  refine ⟨_, ?_, i + 2, rfl, by omega, pre ++ [f], by simp; omega, os', by simpa using q2, by simpa using q3, ?_, rfl⟩
                  · omega
                  · rw [ht, textB_cons, if_neg c34, if_neg c32, if_pos c92]
                    simp only [hed, Option.map_map]
                    congr 1
                    funext q
                    simp [Nat.add_assoc, Nat.add_comm 2 i]
              · have hlt2' : ¬ ((i + 1 : Nat) : Int) < s.length := by omega
                simp [L_lexer_text_1, h0, h4, h5, hlt', hx, c34', c32', c92', hw, hlt2', -Int.natCast_add]
                refine bad ?_
                rw [ht, List.drop_of_length_le (by omega)]; simp [textB_cons, c34, c32, c92]
            · have c92' : ¬ (c.toNat : Int) = 92 := by omega
              obtain ⟨q0, v, H2, os', q1, q2, q3⟩ := hp.push (e' := t_uint8 N) (bytes := 1) (y := avByte c) hL (by simp [roomMax]; omega) (by simp)
              simp [L_lexer_text_1, h0, h4, h5, hlt', hx, c34', c32', c92', hw, q0, q1, -Int.natCast_add]
              refine ⟨_, ?_, i + 1, rfl, by omega, pre ++ [c], by simp; omega, os', by simpa using q2, by simpa using q3, ?_, rfl⟩
              · omega
              · rw [ht]
                simp only [textB_cons, c34, c32, c92, if_false, Option.map_map]
                congr 1
                funext q
                simp
                omega
      · have hlt' : ¬ (i : Int) < s.length := by omega
        simp [L_lexer_text_1, K_lexer_text_1, h0, h5, hlt']
        have hk := settle_keeps (v := .tup [avStr [], avInt .i64 (-1)]) hL.keeps (by simp)
        simp [hk]
        rw [hR]
        have : textB s = none := by rw [ht, List.drop_of_length_le (by omega)]; rfl
        simp [textV, this]
  obtain ⟨r, e, hr⟩ := key
  rw [hR] at hr
  rw [e, hr]
end
end Go.Proofs.Eng
/- Blanks, and one token, run by the engine. -/
set_option linter.unusedVariables false
set_option linter.unusedSimpArgs false
set_option maxRecDepth 100000
namespace Go.Proofs.Eng
open Go
section
variable {Γ : Sums} {A : Tab} {N : Nat → Nat}

/-- How many of the first bytes are blanks, and notes. -/
def blankB (s : List UInt8) : Nat :=
  match s with
  | [] => 0
  | c :: r => if isBlank c = true then 1 + blankB r else if [47, 47].isPrefixOf (c :: r) = true then 1 + runB notLine r + blankB (r.drop (runB notLine r)) else 0
termination_by s.length
decreasing_by
  · simp
  · simp only [List.length_drop, List.length_cons]; omega
theorem blankB_nil : blankB [] = 0 := by rw [blankB]
theorem blankB_cons (c : UInt8) (r : List UInt8) : blankB (c :: r) = if isBlank c = true then 1 + blankB r else if [47, 47].isPrefixOf (c :: r) = true then 1 + runB notLine r + blankB (r.drop (runB notLine r)) else 0 := by
  rw [blankB]
theorem blankB_le (s : List UInt8) : blankB s ≤ s.length := by
  match s with
  | [] => rw [blankB_nil]; simp
  | c :: r =>
    rw [blankB_cons]
    split
    · have := blankB_le r; simp; omega
    · split
      · have h1 := runB_le notLine r
        have h2 := blankB_le (r.drop (runB notLine r))
        simp only [List.length_drop, List.length_cons] at h2 ⊢
        omega
      · simp
termination_by s.length
decreasing_by
  all_goals simp only [List.length_drop, List.length_cons, InvImage]; omega

theorem lexer_blank_call (h : LexT Γ A N) (hs : LexS Γ A N) (s : List UInt8) (hl : s.length < 2 ^ 36) (H : Hp) : (lim Γ A).call (f_lexer_blank N) [avStr s] H = some (avInt .i64 (blankB s : Nat), none) := by
  apply h.blank.call (by rfl)
  simp [C_lexer_blank, -Int.natCast_add]
  refine wp_round (fun k ρ H' => H' = { l := H.l, d := none } ∧ ∃ i : Nat, ρ 0 = avStr s ∧ ρ 3 = avInt .i64 i ∧ i ≤ s.length ∧ blankB s = i + blankB (s.drop i) ∧ k = s.length - i) (n := s.length) ⟨rfl, 0, rfl, rfl, by omega, by simp, rfl⟩ ?_
  rintro k ρ H' ⟨rfl, i, h0, h3, hi, hb, rfl⟩
  by_cases hlt : i < s.length
  · have hlt' : (i : Int) < s.length := by omega
    have hx := asidx_nat (k := .i64) hlt
    have hd : s.drop i = s[i] :: s.drop (i + 1) := List.drop_eq_getElem_cons hlt
    have hf := aslstr_from (k := .i64) (s := s) (i := (i : Int)) (by omega) (by simpa using hi)
    have hib := fun s c => IndexByte_call h s c
    have hix := idx_blank s[i]
    rw [hd, blankB_cons] at hb
    generalize hc : s[i] = c at *
    cases hbl : isBlank c
    · rw [hbl, decide_eq_false_iff_not] at hix
      have hpre := HasPrefix_call h.strs (s.drop i) [47, 47]
      simp only [Int.toNat_natCast] at hf
      cases hp : [47, 47].isPrefixOf (s.drop i)
      · rw [hp] at hpre
        rw [hd] at hp
        rw [hbl, hp] at hb
        simp at hb
        simp [L_lexer_blank_1, h0, h3, hlt', hx, hib, hix, hf, hpre, hb]
      · rw [hp] at hpre
        rw [hd] at hp
        rw [hbl, hp] at hb
        simp only [Bool.false_eq_true, if_false, if_true] at hb
        have hrun := lexer_run_call hs (lexer_blank1_call hs) (s.drop i) (by simp; omega)
        have hnl : notLine c = true := by
          simp [List.isPrefixOf] at hp
          rw [← hp.1]; decide
        have hr2 : runB notLine (s.drop i) = 1 + runB notLine (s.drop (i + 1)) := by rw [hd]; simp [runB, hnl]; omega
        have hrl := runB_le notLine (s.drop i)
        rw [List.length_drop] at hrl
        have hw : IntKind.wrap .i64 ((i : Int) + (runB notLine (s.drop i) : Int)) = ((i + runB notLine (s.drop i) : Nat) : Int) := by rw [wrap64 (by omega) (by omega)]; omega
        simp [L_lexer_blank_1, h0, h3, hlt', hx, hib, hix, hf, hpre, hrun, hw, -Int.natCast_add]
        refine ⟨_, ?_, i + runB notLine (s.drop i), rfl, by omega, ?_, rfl⟩
        · omega
        · rw [hb, hr2, List.drop_drop, show i + 1 + runB notLine (s.drop (i + 1)) = i + (1 + runB notLine (s.drop (i + 1))) from by omega]
          omega
    · rw [hbl, decide_eq_true_eq] at hix
      rw [hbl] at hb
      simp only [if_true] at hb
      have hw : IntKind.wrap .i64 ((i : Int) + 1) = ((i + 1 : Nat) : Int) := by rw [wrap64 (by omega) (by omega)]; omega
      simp [L_lexer_blank_1, h0, h3, hlt', hx, hib, hix, hw, -Int.natCast_add]
      refine ⟨_, ?_, i + 1, rfl, by omega, ?_, rfl⟩
      · omega
      · omega
  · have hlt' : ¬ (i : Int) < s.length := by omega
    rw [List.drop_of_length_le (by omega), blankB_nil] at hb
    simp [L_lexer_blank_1, K_lexer_blank_1, h0, h3, hlt', hb]
end
end Go.Proofs.Eng
/- One token, run by the engine. -/
set_option linter.unusedVariables false
set_option linter.unusedSimpArgs false
set_option maxRecDepth 100000
namespace Go.Proofs.Eng
open Go
section
variable {Γ : Sums} {A : Tab} {N : Nat → Nat}

/-- The token at the head: its kind, its text, how many bytes. -/
def oneC (c : UInt8) (r s : List UInt8) : Option (Nat × List UInt8 × Nat) :=
    if [102, 39].isPrefixOf s = true then (if floatOk s = true then some (5, s.take 18, 18) else none)
    else if isLow c = true then some (if isWordB (s.take (runB isInName s)) = true then 7 else 1, s.take (runB isInName s), runB isInName s)
    else if isHigh c = true then some (2, s.take (runB isInAlias s), runB isInAlias s)
    else if isDigit c = true then (if numberB (s.take (runB isDigit s)) = true then some (4, s.take (runB isDigit s), runB isDigit s) else none)
    else if (decide (c.toNat = 35) && (r.head?.map isLow).getD false) = true then some (3, r.take (runB isInName r), 1 + runB isInName r)
    else if c.toNat = 34 then (textB r).map fun q => (6, q.1, q.2 + 1)
    else (signsL.find? fun x => x.isPrefixOf s).map fun x => (8, x, x.length)
def oneB (s : List UInt8) : Option (Nat × List UInt8 × Nat) :=
  match s with
  | [] => none
  | c :: r => oneC c r (c :: r)
def tokV (k : Nat) (t : List UInt8) (at' : Nat) : AV := .agg [avInt .i64 k, avStr t, avInt .i64 at']
def oneV (s : List UInt8) : AV := match oneB s with
  | none => .tup [tokV 0 [] 0, avInt .i64 0]
  | some (k, t, n) => .tup [tokV k t 0, avInt .i64 n]

structure LexO (Γ : Sums) (A : Tab) (N : Nat → Nat) : Prop where
  S : LexS Γ A N
  T : LexT Γ A N
  one : Has Γ A (f_lexer_one N) (C_lexer_one N)

section
variable (h : LexO Γ A N) {c : UInt8} {r s : List UInt8} (hsd : c :: r = s) (hl : s.length < 2 ^ 36) (H : Hp)
include h hsd hl
set_option maxHeartbeats 4000000 in
theorem one_float (hp : [102, 39].isPrefixOf s = true) : (lim Γ A).call (f_lexer_one N) [avStr s] H = some (if floatOk s = true then .tup [tokV 5 (s.take 18) 0, avInt .i64 (18 : Nat)] else .tup [tokV 0 [] 0, avInt .i64 0], none) := by
  have hx : asidx (avStr s) (.lit (.int .i64 0)) = some (avByte c) := by
    subst hsd
    exact asidx_nat (k := .i64) (s := c :: r) (i := 0) (by simp)
  have hpre := HasPrefix_call h.T.strs s [102, 39]
  rw [hp] at hpre
  have hfl := lexer_float_call h.T s (by omega)
  apply h.one.call (by rfl)
  cases h4 : floatOk s
  · rw [h4] at hfl
    simp (maxSteps := 10000000) [C_lexer_one, hx, hpre, hfl, tokV, settle_cell]
  · rw [h4, floatT_ok h4] at hfl
    have h18 : min 18 s.length = 18 := by
      simp only [floatOk, Bool.and_eq_true, decide_eq_true_eq] at h4
      omega
    simp (maxSteps := 10000000) [C_lexer_one, hx, hpre, hfl, tokV, settle_cell, h18]
variable (hp : [102, 39].isPrefixOf s = false)
include hp
theorem one_low (h1 : isLow c = true) : (lim Γ A).call (f_lexer_one N) [avStr s] H = some (.tup [tokV (if isWordB (s.take (runB isInName s)) = true then 7 else 1) (s.take (runB isInName s)) 0, avInt .i64 (runB isInName s)], none) := by
  have hx : asidx (avStr s) (.lit (.int .i64 0)) = some (avByte c) := by
    subst hsd
    exact asidx_nat (k := .i64) (s := c :: r) (i := 0) (by simp)
  have hpre := HasPrefix_call h.T.strs s [102, 39]
  rw [hp] at hpre
  have hlow := lexer_low_call h.S c
  rw [h1] at hlow
  have hrun := lexer_run_call h.S (lexer_inName_call h.S) s (by omega)
  have hcut := aslstr_upto (k := .i64) (s := s) (j := (runB isInName s : Int)) (by omega) (by simpa using runB_le _ s)
  simp only [Int.toNat_natCast] at hcut
  have hw := lexer_IsWord_call h.S (s.take (runB isInName s))
  apply h.one.call (by rfl)
  cases h4 : isWordB (s.take (runB isInName s)) <;> rw [h4] at hw <;> simp [C_lexer_one, hx, hpre, hlow, hrun, hcut, hw, tokV, settle_cell]
variable (h1 : isLow c = false)
include h1
theorem one_high (h2 : isHigh c = true) : (lim Γ A).call (f_lexer_one N) [avStr s] H = some (.tup [tokV 2 (s.take (runB isInAlias s)) 0, avInt .i64 (runB isInAlias s)], none) := by
  have hx : asidx (avStr s) (.lit (.int .i64 0)) = some (avByte c) := by
    subst hsd
    exact asidx_nat (k := .i64) (s := c :: r) (i := 0) (by simp)
  have hpre := HasPrefix_call h.T.strs s [102, 39]
  rw [hp] at hpre
  have hlow := lexer_low_call h.S c
  rw [h1] at hlow
  have hhigh := lexer_high_call h.S c
  rw [h2] at hhigh
  have hrun := lexer_run_call h.S (lexer_inAlias_call h.S) s (by omega)
  have hcut := aslstr_upto (k := .i64) (s := s) (j := (runB isInAlias s : Int)) (by omega) (by simpa using runB_le _ s)
  simp only [Int.toNat_natCast] at hcut
  apply h.one.call (by rfl)
  simp [C_lexer_one, hx, hpre, hlow, hhigh, hrun, hcut, tokV, settle_cell]
variable (h2 : isHigh c = false)
include h2
theorem one_digit (h3 : isDigit c = true) : (lim Γ A).call (f_lexer_one N) [avStr s] H = some (if numberB (s.take (runB isDigit s)) = true then .tup [tokV 4 (s.take (runB isDigit s)) 0, avInt .i64 (runB isDigit s)] else .tup [tokV 0 [] 0, avInt .i64 0], none) := by
  have hx : asidx (avStr s) (.lit (.int .i64 0)) = some (avByte c) := by
    subst hsd
    exact asidx_nat (k := .i64) (s := c :: r) (i := 0) (by simp)
  have hpre := HasPrefix_call h.T.strs s [102, 39]
  rw [hp] at hpre
  have hlow := lexer_low_call h.S c
  rw [h1] at hlow
  have hhigh := lexer_high_call h.S c
  rw [h2] at hhigh
  have hdig := lexer_digit_call h.S c
  rw [h3] at hdig
  have hrun := lexer_run_call h.S (lexer_digit_call h.S) s (by omega)
  have hnum := lexer_number_call h.S (s.take (runB isDigit s))
  have hcut := aslstr_upto (k := .i64) (s := s) (j := (runB isDigit s : Int)) (by omega) (by simpa using runB_le _ s)
  simp only [Int.toNat_natCast] at hcut
  apply h.one.call (by rfl)
  cases h4 : numberB (s.take (runB isDigit s)) <;> rw [h4] at hnum <;> simp [C_lexer_one, hx, hpre, hlow, hhigh, hdig, hrun, hcut, hnum, tokV, settle_cell]
variable (h3 : isDigit c = false)
include h3
theorem one_tag {d : UInt8} {r' : List UInt8} (h4 : c.toNat = 35) (hr : r = d :: r') (h5 : isLow d = true) :
    (lim Γ A).call (f_lexer_one N) [avStr s] H = some (.tup [tokV 3 (r.take (runB isInName r)) 0, avInt .i64 ((1 + runB isInName r : Nat) : Int)], none) := by
  have hx : asidx (avStr s) (.lit (.int .i64 0)) = some (avByte c) := by
    subst hsd
    exact asidx_nat (k := .i64) (s := c :: r) (i := 0) (by simp)
  have hsl : s.length = r.length + 1 := by rw [← hsd]; rfl
  have hrl : 1 ≤ r.length := by rw [hr]; simp
  have hx1 : asidx (avStr s) (.lit (.int .i64 1)) = some (avByte d) := by
    have := asidx_nat (k := .i64) (s := s) (i := 1) (by omega)
    subst hsd; subst hr
    exact this
  have hpre := HasPrefix_call h.T.strs s [102, 39]
  rw [hp] at hpre
  have hlow := lexer_low_call h.S c
  rw [h1] at hlow
  have hlowd := lexer_low_call h.S d
  rw [h5] at hlowd
  have hhigh := lexer_high_call h.S c
  rw [h2] at hhigh
  have hdig := lexer_digit_call h.S c
  rw [h3] at hdig
  have h4' : (c.toNat : Int) = 35 := by omega
  have hl1 : (1 : Int) < s.length := by omega
  have hfr : aslstr (avStr s) (some (.lit (.int .i64 1))) none = some (avStr r) := by
    have := aslstr_from (k := .i64) (s := s) (i := 1) (by omega) (by show 1 ≤ _; omega)
    rw [this, ← hsd]; rfl
  have hrb := runB_le isInName r
  have hrun := lexer_run_call h.S (lexer_inName_call h.S) r (by omega)
  have hw : IntKind.wrap .i64 (1 + (runB isInName r : Int)) = ((1 + runB isInName r : Nat) : Int) := by rw [wrap64 (by omega) (by omega)]; omega
  have hcut : aslstr (avStr s) (some (.lit (.int .i64 1))) (some (.lit (.int .i64 ((1 + runB isInName r : Nat) : Int)))) = some (avStr (r.take (runB isInName r))) := by
    have e : ((1 + runB isInName r : Nat) : Int).toNat - (1 : Int).toNat = runB isInName r := by omega
    rw [aslstr_cut (by omega) (by omega) (by omega), e, ← hsd]
    rfl
  apply h.one.call (by rfl)
  simp [C_lexer_one, hx, hx1, hpre, hlow, hlowd, hhigh, hdig, h4', hl1, hfr, hrun, hw, hcut, tokV, settle_cell, -Int.natCast_add]
end
end
end Go.Proofs.Eng
/- One token: strings and signs. -/
set_option linter.unusedVariables false
set_option linter.unusedSimpArgs false
set_option maxRecDepth 100000
namespace Go.Proofs.Eng
open Go
section
variable {Γ : Sums} {A : Tab} {N : Nat → Nat}

theorem signs_loop (h : LexO Γ A N) {s : List UInt8} {ρ : Rho} {H : Hp} {Q : Post} {a b c : AV} {p : Nat} {t : TypeId} (h0 : ρ 0 = avStr s) (h2 : ρ 2 = .ptr p 0) (h115 : ρ 115 = .sl 1 (signsL.map avStr)) (h116 : ρ 116 = avInt .i64 27) (h117 : ρ 117 = avInt .i64 0)
    (hg : hget H p = some (.cells [a, b, c] t)) (hp : p < H.l.length)
    (hR : ∀ (ρ' : Rho) (x : List UInt8), signsL.find? (fun x => x.isPrefixOf s) = some x → ρ' 2 = .ptr p 0 → ρ' 3 = avInt .i64 x.length → Q .ret ρ' (hset H p (some (.cells [avInt .i64 8, avStr x, avInt .i64 0] t))))
    (hE : signsL.find? (fun x => x.isPrefixOf s) = none → ∀ ρ' : Rho, ρ' 2 = .ptr p 0 → Q (.exit 1) ρ' H) : wp (lim Γ A) none (.loop (L_lexer_one_1 N)) ρ H Q := by
  refine wp_round (fun k ρ H' => H' = H ∧ ∃ i : Nat, ρ 0 = avStr s ∧ ρ 2 = .ptr p 0 ∧ ρ 115 = .sl 1 (signsL.map avStr) ∧ ρ 116 = avInt .i64 27 ∧ ρ 117 = avInt .i64 i ∧ i ≤ 27 ∧ signsL.find? (fun x => x.isPrefixOf s) = (signsL.drop i).find? (fun x => x.isPrefixOf s) ∧ k = 27 - i) (n := 27)
    ⟨rfl, 0, h0, h2, h115, h116, h117, by omega, rfl, rfl⟩ ?_
  rintro k ρ H' ⟨rfl, i, h0, h2, h115, h116, h117, hi, hf, rfl⟩
  have h27 : signsL.length = 27 := rfl
  by_cases hlt : i < 27
  · have hlt' : (i : Int) < 27 := by omega
    have hls : i < signsL.length := by omega
    have ha := aiaddr_sln (sz := 1) (xs := signsL.map avStr) (k := .i64) (i := i) (x := avStr signsL[i]) (by simp [hls]) rfl
    rw [List.drop_eq_getElem_cons hls] at hf
    have hpre := HasPrefix_call h.T.strs s signsL[i]
    generalize signsL[i] = x at *
    cases hx : x.isPrefixOf s
    · rw [hx] at hpre
      rw [List.find?_cons, hx] at hf
      have hw : IntKind.wrap .i64 ((i : Int) + 1) = ((i + 1 : Nat) : Int) := by rw [wrap64 (by omega) (by omega)]; omega
      simp [L_lexer_one_1, h0, h2, h115, h116, h117, hlt', ha, aload, hpre, hw, -Int.natCast_add]
      refine ⟨27 - (i + 1), by omega, i + 1, rfl, by omega, hf, rfl⟩
    · rw [hx] at hpre
      rw [List.find?_cons, hx] at hf
      simp [L_lexer_one_1, h0, h2, h115, h116, h117, hlt', ha, aload, hpre, astore, hg, setFrom, -Int.natCast_add]
      refine hR _ x hf ?_ ?_
      · simp [h2]
      · simp
  · have hlt' : ¬ (i : Int) < 27 := by omega
    rw [List.drop_of_length_le (by omega)] at hf
    simp [L_lexer_one_1, h0, h2, h115, h116, h117, hlt']
    refine hE hf _ ?_
    simp [h2]

section
variable (h : LexO Γ A N) {c : UInt8} {r s : List UInt8} (hsd : c :: r = s) (hl : s.length < 2 ^ 36) (H : Hp)
variable (hp : [102, 39].isPrefixOf s = false) (h1 : isLow c = false) (h2 : isHigh c = false) (h3 : isDigit c = false)
include h hsd hl hp h1 h2 h3
theorem lone_str (h4 : c.toNat = 34) : (lim Γ A).call (f_lexer_one N) [avStr s] H = some (match textB r with | none => .tup [tokV 0 [] 0, avInt .i64 0] | some (t, n) => .tup [tokV 6 t 0, avInt .i64 ((n + 1 : Nat) : Int)], none) := by
  have hx : asidx (avStr s) (.lit (.int .i64 0)) = some (avByte c) := by
    subst hsd
    exact asidx_nat (k := .i64) (s := c :: r) (i := 0) (by simp)
  have hsl : s.length = r.length + 1 := by rw [← hsd]; rfl
  have hpre := HasPrefix_call h.T.strs s [102, 39]
  rw [hp] at hpre
  have hlow := lexer_low_call h.S c
  rw [h1] at hlow
  have hhigh := lexer_high_call h.S c
  rw [h2] at hhigh
  have hdig := lexer_digit_call h.S c
  rw [h3] at hdig
  have h4' : (c.toNat : Int) = 34 := by omega
  have hfr : aslstr (avStr s) (some (.lit (.int .i64 1))) none = some (avStr r) := by
    have := aslstr_from (k := .i64) (s := s) (i := 1) (by omega) (by show 1 ≤ _; omega)
    rw [this, ← hsd]; rfl
  have htx := lexer_text_call h.T r (by omega)
  apply h.one.call (by rfl)
  cases ht : textB r with
  | none =>
    rw [textV, ht] at htx
    simp only [] at htx
    simp [C_lexer_one, hx, hpre, hlow, hhigh, hdig, h4', hfr, htx, tokV, settle_cell, -Int.natCast_add]
  | some q =>
    obtain ⟨t, n⟩ := q
    rw [textV, ht] at htx
    simp only [] at htx
    have hn := textB_le r ht
    have hn' : ¬ (n : Int) < 0 := by omega
    have hw : IntKind.wrap .i64 ((n : Int) + 1) = ((n + 1 : Nat) : Int) := by rw [wrap64 (by omega) (by omega)]; omega
    simp [C_lexer_one, hx, hpre, hlow, hhigh, hdig, h4', hfr, htx, hn', hw, tokV, settle_cell, -Int.natCast_add]
theorem lone_signs (h4 : c.toNat ≠ 34) (h5 : (decide (c.toNat = 35) && (r.head?.map isLow).getD false) = false) :
    (lim Γ A).call (f_lexer_one N) [avStr s] H = some (match signsL.find? (fun x => x.isPrefixOf s) with | none => .tup [tokV 0 [] 0, avInt .i64 0] | some x => .tup [tokV 8 x 0, avInt .i64 x.length], none) := by
  have hx : asidx (avStr s) (.lit (.int .i64 0)) = some (avByte c) := by
    subst hsd
    exact asidx_nat (k := .i64) (s := c :: r) (i := 0) (by simp)
  have hsl : s.length = r.length + 1 := by rw [← hsd]; rfl
  have hpre := HasPrefix_call h.T.strs s [102, 39]
  rw [hp] at hpre
  have hlow := lexer_low_call h.S c
  rw [h1] at hlow
  have hhigh := lexer_high_call h.S c
  rw [h2] at hhigh
  have hdig := lexer_digit_call h.S c
  rw [h3] at hdig
  have h4' : ¬ (c.toNat : Int) = 34 := by omega
  have hsg := lexer_signs_call h.S
  apply h.one.call (by rfl)
  have tail : ∀ ρ : Rho, ρ 0 = avStr s → ρ 2 = .ptr H.l.length 0 → ρ 115 = .sl 1 (signsL.map avStr) → ρ 116 = avInt .i64 27 → ρ 117 = avInt .i64 0 →
      wp (lim Γ A) none (.loop (L_lexer_one_1 N)) ρ (halloc { l := H.l, d := none } (.cells [.lit (.int .i64 0), .lit (.string (mkS [])), .lit (.int .i64 0)] (t_api_Token N)))
        (blockP 1 (seqP (lim Γ A) none (K_lexer_one_1 N) (Ends (C_lexer_one N).results (C_lexer_one N).frz H fun p => p = (match signsL.find? (fun x => x.isPrefixOf s) with | none => .tup [tokV 0 [] 0, avInt .i64 0] | some x => .tup [tokV 8 x 0, avInt .i64 x.length], none)))) := by
    intro ρ r0 r2 r115 r116 r117
    refine signs_loop h r0 r2 r115 r116 r117 (a := .lit (.int .i64 0)) (b := .lit (.string (mkS []))) (c := .lit (.int .i64 0)) (t := t_api_Token N) (by simp) (by simp) ?_ ?_
    · intro ρ' x hx r2 r3
      simp [C_lexer_one, hx, r2, r3, aload, tokV, settle_cell]
    · intro hx ρ' r2
      simp [C_lexer_one, K_lexer_one_1, hx, r2, aload, astore, setFrom, tokV, settle_cell]
  by_cases c35 : c.toNat = 35
  · have c35' : (c.toNat : Int) = 35 := by omega
    by_cases hr : r.length = 0
    · have hl1 : ¬ (1 : Int) < s.length := by omega
      simp [C_lexer_one, hx, hpre, hlow, hhigh, hdig, c35', hl1, hsg, asLen]
      refine tail _ ?_ ?_ ?_ ?_ ?_ <;> simp [signsL]
    · obtain ⟨d, r', rfl⟩ : ∃ d r', r = d :: r' := by cases r with | nil => exact absurd rfl hr | cons d r' => exact ⟨d, r', rfl⟩
      have hl1 : (1 : Int) < s.length := by omega
      have hx1 : asidx (avStr s) (.lit (.int .i64 1)) = some (avByte d) := by
        have := asidx_nat (k := .i64) (s := s) (i := 1) (by omega)
        subst hsd
        exact this
      have hd : isLow d = false := by simpa [c35] using h5
      have hlowd := lexer_low_call h.S d
      rw [hd] at hlowd
      simp [C_lexer_one, hx, hpre, hlow, hhigh, hdig, c35', hl1, hx1, hlowd, hsg, asLen]
      refine tail _ ?_ ?_ ?_ ?_ ?_ <;> simp [signsL]
  · have c35' : ¬ (c.toNat : Int) = 35 := by omega
    simp [C_lexer_one, hx, hpre, hlow, hhigh, hdig, c35', h4', hsg, asLen]
    refine tail _ ?_ ?_ ?_ ?_ ?_ <;> simp [signsL]
end
theorem lexer_one_call (h : LexO Γ A N) (s : List UInt8) (hne : s ≠ []) (hl : s.length < 2 ^ 36) (H : Hp) : (lim Γ A).call (f_lexer_one N) [avStr s] H = some (oneV s, none) := by
  obtain ⟨c, r, hsd⟩ : ∃ c r, c :: r = s := by cases s with | nil => exact absurd rfl hne | cons c r => exact ⟨c, r, rfl⟩
  have hone : oneB s = oneC c r s := by rw [← hsd]; rfl
  unfold oneV
  rw [hone]
  unfold oneC
  cases hp : [102, 39].isPrefixOf s
  · cases h1 : isLow c
    · cases h2 : isHigh c
      · cases h3 : isDigit c
        · cases h5 : (decide (c.toNat = 35) && (r.head?.map isLow).getD false)
          · by_cases h4 : c.toNat = 34
            · rw [lone_str h hsd hl H hp h1 h2 h3 h4]
              simp only [Bool.false_eq_true, if_false, h4, if_true]
              cases textB r <;> rfl
            · rw [lone_signs h hsd hl H hp h1 h2 h3 h4 h5]
              simp only [Bool.false_eq_true, if_false, h4]
              cases signsL.find? (fun x => x.isPrefixOf s) <;> rfl
          · rw [Bool.and_eq_true, decide_eq_true_eq] at h5
            obtain ⟨d, r', hr⟩ : ∃ d r', r = d :: r' := by
              cases r with
              | nil => simp at h5
              | cons d r' => exact ⟨d, r', rfl⟩
            rw [one_tag h hsd hl H hp h1 h2 h3 h5.1 hr (by rw [hr] at h5; simpa using h5.2)]
            simp
        · rw [one_digit h hsd hl H hp h1 h2 h3]
          cases numberB (s.take (runB isDigit s)) <;> simp
      · rw [one_high h hsd hl H hp h1 h2]
        simp
    · rw [one_low h hsd hl H hp h1]
      simp
  · rw [one_float h hsd hl H hp]
    cases floatOk s <;> simp
end
end Go.Proofs.Eng
/- The tokens of a text, run by the engine. -/
set_option linter.unusedVariables false
set_option linter.unusedSimpArgs false
set_option maxRecDepth 100000
namespace Go.Proofs.Eng
open Go
section
variable {Γ : Sums} {A : Tab} {N : Nat → Nat}

abbrev Tok := Nat × List UInt8 × Nat
def tokA (t : Tok) : AV := tokV t.1 t.2.1 t.2.2
theorem tokA_good (t : Tok) : ((tokA t).good && (tokA t).cells.length == 3) = true := rfl
theorem runB_pos {p : UInt8 → Bool} {c : UInt8} {r : List UInt8} (h : p c = true) : 1 ≤ runB p (c :: r) := by simp [runB, h]
theorem oneB_pos {s : List UInt8} {k : Nat} {t : List UInt8} {n : Nat} (h : oneB s = some (k, t, n)) : 1 ≤ n ∧ n ≤ s.length := by
  cases s with
  | nil => simp [oneB] at h
  | cons c r =>
    simp only [oneB, oneC] at h
    have rl := fun p => runB_le p (c :: r)
    split at h
    · split at h
      · rename_i hf
        simp only [Option.some.injEq, Prod.mk.injEq] at h
        simp only [floatOk, Bool.and_eq_true, decide_eq_true_eq] at hf
        omega
      · simp at h
    · split at h
      · rename_i h1
        simp only [Option.some.injEq, Prod.mk.injEq] at h
        have := runB_pos (p := isInName) (c := c) (r := r) (by simp [isInName, h1])
        have := rl isInName
        omega
      · split at h
        · rename_i h1
          simp only [Option.some.injEq, Prod.mk.injEq] at h
          have := runB_pos (p := isInAlias) (c := c) (r := r) (by simp [isInAlias, h1])
          have := rl isInAlias
          omega
        · split at h
          · rename_i h1
            split at h
            · simp only [Option.some.injEq, Prod.mk.injEq] at h
              have := runB_pos (p := isDigit) (c := c) (r := r) h1
              have := rl isDigit
              omega
            · simp at h
          · split at h
            · simp only [Option.some.injEq, Prod.mk.injEq] at h
              have := runB_le isInName r
              simp only [List.length_cons]
              omega
            · split at h
              · simp only [Option.map_eq_some_iff, Prod.mk.injEq, Prod.exists] at h
                obtain ⟨t', n', h1, h2, h3, h4⟩ := h
                have := textB_le r h1
                simp only [List.length_cons]
                omega
              · simp only [Option.map_eq_some_iff, Prod.mk.injEq] at h
                obtain ⟨x, h1, h2, h3, h4⟩ := h
                have h5 := List.mem_of_find?_eq_some h1
                have h6 := List.find?_some h1
                have h7 := (List.isPrefixOf_iff_prefix.1 h6).length_le
                have h8 : ∀ x ∈ signsL, 1 ≤ x.length := by decide
                have := h8 x h5
                omega

theorem hget_small {H : Hp} {i : Nat} {o : AObj} (h : hget H i = some o) : i < H.l.length := by
  rcases Nat.lt_or_ge i H.l.length with h1 | h1
  · exact h1
  · simp [hget, List.getElem?_eq_none h1] at h
def tokF : Nat → Nat → List UInt8 → List Tok × Option Nat
  | 0, _, _ => ([], none)
  | k + 1, at', s =>
    if s = [] then ([(0, [], at')], none)
    else match oneB s with
      | none => ([], some at')
      | some (kd, t, n) =>
        let q := tokF k (at' + n + blankB (s.drop n)) ((s.drop n).drop (blankB (s.drop n)))
        ((kd, t, at') :: q.1, q.2)
theorem tokF_fuel : ∀ (k j at' : Nat) (s : List UInt8), s.length < k → s.length < j → tokF k at' s = tokF j at' s
  | 0, _, _, _, h, _ => by omega
  | _, 0, _, _, _, h => by omega
  | k + 1, j + 1, at', s, h1, h2 => by
    simp only [tokF]
    split
    · rfl
    · cases h : oneB s with
      | none => rfl
      | some q =>
        obtain ⟨kd, t, n⟩ := q
        have hp := oneB_pos h
        simp only []
        rw [tokF_fuel k j _ _ (by simp only [List.length_drop]; omega) (by simp only [List.length_drop]; omega)]
theorem tokF_some {k at' : Nat} {s : List UInt8} {kd n : Nat} {t : List UInt8} (hs : s ≠ []) (h : oneB s = some (kd, t, n)) :
    tokF (k + 1) at' s = ((kd, t, at') :: (tokF k (at' + n + blankB (s.drop n)) ((s.drop n).drop (blankB (s.drop n)))).1, (tokF k (at' + n + blankB (s.drop n)) ((s.drop n).drop (blankB (s.drop n)))).2) := by
  simp only [tokF, hs, if_false, h]
def tokR (at' : Nat) (s : List UInt8) : List Tok × Option Nat := tokF (s.length + 1) at' s
theorem tokR_nil (at' : Nat) : tokR at' [] = ([(0, [], at')], none) := rfl
theorem tokR_none {at' : Nat} {s : List UInt8} (hs : s ≠ []) (h : oneB s = none) : tokR at' s = ([], some at') := by
  simp [tokR, tokF, hs, h]
theorem tokR_some {at' : Nat} {s : List UInt8} {kd n : Nat} {t : List UInt8} (hs : s ≠ []) (h : oneB s = some (kd, t, n)) :
    tokR at' s = ((kd, t, at') :: (tokR (at' + n + blankB (s.drop n)) ((s.drop n).drop (blankB (s.drop n)))).1, (tokR (at' + n + blankB (s.drop n)) ((s.drop n).drop (blankB (s.drop n)))).2) := by
  have hp := oneB_pos h
  unfold tokR
  rw [tokF_some hs h, tokF_fuel s.length (((s.drop n).drop (blankB (s.drop n))).length + 1) _ _ (by simp only [List.length_drop]; omega) (by omega)]
def lexR (b : List UInt8) : List Tok × Nat × Nat :=
  if 1048576 < b.length then ([], 6, 0)
  else if stopOf b ≠ b.length then ([], 2, stopOf b)
  else match tokR (blankB b) (b.drop (blankB b)) with
    | (l, none) => (l, 0, 0)
    | (_, some p) => ([], 3, p)
def diagV (e p : Nat) : AV := .agg [avInt .i64 e, avInt .i64 p, avStr []]

theorem frz_tok {L : HL} {n k : Nat} (t : Tok) : frz L n (k + 2) (tokA t) = some (tokA t) := by
  simp [tokA, tokV, frz, List.mapM_cons]
theorem frz_diag {L : HL} {n k e p : Nat} : frz L n (k + 2) (diagV e p) = some (diagV e p) := by
  simp [diagV, frz, List.mapM_cons]
theorem mapM_self {α : Type} {f : α → Option α} : ∀ {l : List α}, (∀ x ∈ l, f x = some x) → l.mapM f = some l
  | [], _ => by simp
  | a :: l, h => by
    rw [List.mapM_cons, h a List.mem_cons_self, mapM_self (l := l) fun x hx => h x (List.mem_cons_of_mem _ hx)]
    rfl

structure LexA (Γ : Sums) (A : Tab) (N : Nat → Nat) : Prop extends LexO Γ A N where
  runes : RunesAll Γ A N
  bad : Has Γ A (f_runes_Bad N) (C_runes_Bad N)
  lex : Has Γ A (f_lexer_Lex N) (C_lexer_Lex N)

theorem lexer_Lex_call (h : LexA Γ A N) {x : AV} {b : List UInt8} (H : Hp) (hx : VBytes H x b) (hl : b.length < 2 ^ 36) :
    ∃ u, (lim Γ A).call (f_lexer_Lex N) [x] H = some (.tup [u, diagV (lexR b).2.1 (lexR b).2.2], none) ∧ Fzr 3 u ((lexR b).1.map tokA) := by
  obtain ⟨R, hR⟩ : ∃ R : AV × Option Hp → Prop, R = fun r => ∃ u, r = (.tup [u, diagV (lexR b).2.1 (lexR b).2.2], none) ∧ Fzr 3 u ((lexR b).1.map tokA) := ⟨_, rfl⟩
  have key : ∃ r, (lim Γ A).call (f_lexer_Lex N) [x] H = some r ∧ R r := by
    apply h.lex.callP (by rfl)
    have hlen := Vw.len hx
    rw [List.length_map] at hlen
    have fail : ∀ (e p : Nat) (H' : Hp) (os : List (Nat × AObj)), Loc H H' os → lexR b = ([], e, p) → R (settleZ true H (.tup [avNilS, diagV e p]) H') := by
      intro e p H' os hL hr
      rw [settleZ_frz (u := .tup [avNilS, diagV e p]) hL.keeps (by rw [frz_tup, mapM_cons', mapM_cons', frz_diag]; simp [frz]), hR]
      exact ⟨_, by rw [hr], .inl ⟨rfl, by rw [hr]; rfl⟩⟩
    by_cases hlong : 1048576 < b.length
    · have hlong' : (1048576 : Int) < b.length := by omega
      simp [C_lexer_Lex, hlen, hlong', aload, astore, setFrom]
      exact fail 6 0 _ _ (((Loc.start H).alloc _).set _) (by simp [lexR, hlong])
    · have hlong' : ¬ (1048576 : Int) < b.length := by omega
      have hL0 := (Loc.start H).alloc (.cells [.lit (.int .i64 0), .lit (.int .i64 0), .lit (.string (mkS []))] (t_api_Diag N))
      have hx0 := Vw.loc hx hL0
      have hbad := runes_Bad_call h.runes h.bad _ hx0 (by omega)
      by_cases hst : stopOf b = b.length
      · have hb0 : badOf b = -1 := by simp [badOf, hst]
        rw [hb0] at hbad
        have hstr := VBytes.str hx0
        have hbl := lexer_blank_call h.T h.S b hl
        simp [C_lexer_Lex, hlen, hlong', hbad, hstr, hbl]
        have hz := blankB_le b
        refine wp_round (fun k ρ H' => ∃ (at' : Nat) (l : List Tok) (p : AV) (os : List (Nat × AObj)), ρ 3 = .ptr H.l.length 0 ∧ ρ 5 = p ∧ ρ 6 = avStr b ∧ ρ 7 = avInt .i64 at' ∧ at' ≤ b.length ∧ l.length ≤ at' ∧ Row (t_api_Token N) 3 p (l.map tokA) os ∧
            Loc H H' (os ++ [(H.l.length, .cells [.lit (.int .i64 0), .lit (.int .i64 0), .lit (.string (mkS []))] (t_api_Diag N))]) ∧
            tokR (blankB b) (b.drop (blankB b)) = (l ++ (tokR at' (b.drop at')).1, (tokR at' (b.drop at')).2) ∧ k = b.length - at') (n := b.length - blankB b) ?_ ?_
        · refine ⟨blankB b, [], _, [], ?_, rfl, ?_, ?_, hz, by simp, Row.nil _ _, hL0, by simp, rfl⟩ <;> simp
        · rintro k ρ H' ⟨at', l, p, os, h3, h5, h6, h7, hat, hll, hp, hL, ht, rfl⟩
          have hgd := hL.get (List.mem_append_right _ List.mem_cons_self)
          simp only [] at hgd
          have hnl : ¬ H.l.length = H'.l.length := by
            intro e
            rw [e] at hgd
            simp [hget] at hgd
          by_cases hlt : at' < b.length
          · have hlt' : (at' : Int) < b.length := by omega
            have hne : b.drop at' ≠ [] := by
              intro e
              have := congrArg List.length e
              simp at this
              omega
            have hone := lexer_one_call h.toLexO (b.drop at') hne (by simp; omega) H'
            have hf := aslstr_from (k := .i64) (s := b) (i := (at' : Int)) (by omega) (by simpa using hat)
            simp only [Int.toNat_natCast] at hf
            unfold oneV at hone
            cases ho : oneB (b.drop at') with
            | none =>
              rw [ho] at hone
              simp only [] at hone
              rw [tokR_none hne ho] at ht
              have hL1 := (hL.alloc (.cells [.lit (.int .i64 0), .lit (.string (mkS [])), .lit (.int .i64 0)] (t_api_Token N))).set (.cells [avInt .i64 0, avStr [], avInt .i64 0] (t_api_Token N))
              have hlt3 : H.l.length < H'.l.length + 1 := by have := hget_small hgd; omega
              have hL2 := Loc.setMid (as := (H'.l.length, _) :: os) (bs := []) hL1 (.cells [avInt .i64 3, avInt .i64 at', avStr []] (t_api_Diag N))
              have hlx : lexR b = ([], 3, at') := by
                unfold lexR
                rw [if_neg hlong, if_neg (by simpa using hst), ht]
              simp [L_lexer_Lex_1, h3, h5, h6, h7, hlt', hf, hone, aload, astore, setFrom, tokV, hgd, hnl, hlt3, -Int.natCast_add]
              exact fail 3 at' _ _ hL2 hlx
            | some q =>
              obtain ⟨kd, t, n⟩ := q
              rw [ho] at hone
              simp only [] at hone
              have hpos := oneB_pos ho
              rw [tokR_some hne ho] at ht
              have hn0 : ¬ n = 0 := by omega
              rw [List.length_drop] at hpos
              have hL1 := ((hL.alloc (.cells [.lit (.int .i64 0), .lit (.string (mkS [])), .lit (.int .i64 0)] (t_api_Token N))).set (.cells [avInt .i64 kd, avStr t, avInt .i64 (0 : Nat)] (t_api_Token N))).set (.cells [avInt .i64 kd, avStr t, avInt .i64 at'] (t_api_Token N))
              have hL2 := hL1.perm (os' := os ++ (H'.l.length, .cells [avInt .i64 kd, avStr t, avInt .i64 at'] (t_api_Token N)) :: [(H.l.length, .cells [.lit (.int .i64 0), .lit (.int .i64 0), .lit (.string (mkS []))] (t_api_Diag N))]) List.perm_middle.symm
              obtain ⟨q0, v, H2, os', q1, q2, q3⟩ := hp.push (e' := t_api_Token N) (bytes := 32) (y := tokA (kd, t, at')) hL2 (by simp [roomMax]; omega) (tokA_good _)
              have hll : (hset (hset (halloc H' (.cells [.lit (.int .i64 0), .lit (.string (mkS [])), .lit (.int .i64 0)] (t_api_Token N))) H'.l.length (some (.cells [avInt .i64 kd, avStr t, avInt .i64 (0 : Nat)] (t_api_Token N)))) H'.l.length (some (.cells [avInt .i64 kd, avStr t, avInt .i64 at'] (t_api_Token N)))).l.length = H'.l.length + 1 := by simp
              rw [hll] at q0
              simp only [tokA, tokV, Int.natCast_zero] at q0 q1
              have hw : IntKind.wrap .i64 ((at' : Int) + (n : Int)) = ((at' + n : Nat) : Int) := by rw [wrap64 (by omega) (by omega)]; omega
              have hf2 := aslstr_from (k := .i64) (s := b) (i := ((at' + n : Nat) : Int)) (by omega) (by omega)
              simp only [Int.toNat_natCast] at hf2
              have hb2 := lexer_blank_call h.T h.S (b.drop (at' + n)) (by simp; omega)
              have hble := blankB_le (b.drop (at' + n))
              rw [List.length_drop] at hble
              have hw2 : IntKind.wrap .i64 (((at' + n : Nat) : Int) + (blankB (b.drop (at' + n)) : Int)) = ((at' + n + blankB (b.drop (at' + n)) : Nat) : Int) := by rw [wrap64 (by omega) (by omega)]; omega
              simp [L_lexer_Lex_1, h3, h5, h6, h7, hlt', hf, hone, aload, astore, setFrom, tokV, hn0, afaddr, q0, q1, hw, hf2, hb2, hw2, -Int.natCast_add]
              refine ⟨_, ?_, at' + n + blankB (b.drop (at' + n)), rfl, by omega, l ++ [(kd, t, at')], by simp; omega, os', by simpa [tokA, tokV] using q2, ?_, ?_, rfl⟩
              · omega
              · exact q3.sub (List.Sublist.append (List.Sublist.refl _) ((List.Sublist.refl _).cons _))
              · rw [ht]
                simp [List.drop_drop, Nat.add_assoc]
          · have hlt' : ¬ (at' : Int) < b.length := by omega
            have hab : at' = b.length := by omega
            rw [show b.drop at' = [] from List.drop_of_length_le (by omega), tokR_nil] at ht
            obtain ⟨q0, v, H2, os', q1, q2, q3⟩ := hp.push (e' := t_api_Token N) (bytes := 32) (y := tokA (0, [], b.length)) hL (by simp [roomMax]; omega) (tokA_good _)
            have hgd2 := q3.get (List.mem_append_right _ List.mem_cons_self)
            simp only [] at hgd2
            simp only [tokA, tokV, Int.natCast_zero] at q0 q1
            have hlt4 := hget_small hgd2
            have fin : R (settleZ true H (.tup [v, diagV 0 0]) (hset H2 H.l.length (some (.cells [.lit (.int .i64 0), .lit (.int .i64 0), .lit (.string (mkS []))] (t_api_Diag N))))) := by
              have hL2 := q3.setMid (.cells [.lit (.int .i64 0), .lit (.int .i64 0), .lit (.string (mkS []))] (t_api_Diag N))
              obtain ⟨u, f1, f2⟩ := Row.frz (k := 14) q2 hL2 (mapM_self (by
                intro y hy
                have hy2 : y ∈ (l ++ [((0, [], b.length) : Tok)]).map tokA := by simpa using hy
                obtain ⟨t, _, rfl⟩ := List.mem_map.1 hy2
                exact frz_tok t))
              rw [settleZ_frz (u := .tup [u, diagV 0 0]) hL2.keeps (by rw [frz_tup, mapM_cons', mapM_cons', f1, frz_diag]; simp), hR]
              have hr : lexR b = (l ++ [(0, [], b.length)], 0, 0) := by
                unfold lexR
                rw [if_neg hlong, if_neg (by simpa using hst), ht, hab]
              exact ⟨u, by rw [hr], by rw [hr]; simpa using f2⟩
            simp [L_lexer_Lex_1, K_lexer_Lex_1, h3, h5, h6, h7, hlt', aload, astore, setFrom, hgd, hgd2, hlt4, q0, q1, -Int.natCast_add]
            exact fin
      · have hb0 : badOf b = stopOf b := by simp [badOf, hst]
        have hb1 : 0 ≤ badOf b := by rw [hb0]; omega
        simp [C_lexer_Lex, hlen, hlong', hbad, hb1, aload, astore, setFrom]
        rw [hb0]
        exact fail 2 (stopOf b) _ _ (hL0.set _) (by simp [lexR, hlong, hst])
  obtain ⟨r, e, hr⟩ := key
  rw [hR] at hr
  obtain ⟨u, rfl, hu⟩ := hr
  exact ⟨u, e, hu⟩
end
end Go.Proofs.Eng
/- The reference of chapter 3, run by the engine: signs, names. -/
set_option linter.unusedVariables false
set_option linter.unusedSimpArgs false
set_option maxRecDepth 100000
namespace Go.Proofs.Eng
open Go
section
variable {Γ : Sums} {A : Tab} {N : Nat → Nat}
structure Ref03S (Γ : Sums) (A : Tab) (N : Nat → Nat) : Prop where
  low : Has Γ A (f_ref03_low N) (C_ref03_low N)
  high : Has Γ A (f_ref03_high N) (C_ref03_high N)
  digit : Has Γ A (f_ref03_digit N) (C_ref03_digit N)
  hex : Has Γ A (f_ref03_hex N) (C_ref03_hex N)
  name : Has Γ A (f_ref03_name N) (C_ref03_name N)
  number : Has Γ A (f_ref03_number N) (C_ref03_number N)
  str : Has Γ A (f_ref03_str N) (C_ref03_str N)
  sign : Has Γ A (f_ref03_sign N) (C_ref03_sign N)
  isWord : Has Γ A (f_ref03_IsWord N) (C_ref03_IsWord N)

theorem ref03_low_call (h : Ref03S Γ A N) (c : UInt8) (H : Hp) : (lim Γ A).call (f_ref03_low N) [avByte c] H = some (avBool (isLow c), none) := by
  apply h.low.call (by rfl)
  unfold isLow
  by_cases h1 : 97 ≤ c.toNat
  · have h1' : (97 : Int) ≤ c.toNat := by omega
    by_cases h2 : c.toNat ≤ 122
    · have h2' : (c.toNat : Int) ≤ 122 := by omega
      simp [C_ref03_low, avByte, h1, h1', h2, h2']
    · have h2' : ¬ (c.toNat : Int) ≤ 122 := by omega
      have h3 : ¬ c.toNat = 95 := by omega
      have h3' : ¬ (c.toNat : Int) = 95 := by omega
      simp [C_ref03_low, avByte, h1, h1', h2, h2', h3, h3']
  · have h1' : ¬ (97 : Int) ≤ c.toNat := by omega
    by_cases h3 : c.toNat = 95
    · have h3' : (c.toNat : Int) = 95 := by omega
      simp [C_ref03_low, avByte, h3, h3']
    · have h3' : ¬ (c.toNat : Int) = 95 := by omega
      simp [C_ref03_low, avByte, h1, h1', h3, h3']
theorem ref03_digit_call (h : Ref03S Γ A N) (c : UInt8) (H : Hp) : (lim Γ A).call (f_ref03_digit N) [avByte c] H = some (avBool (isDigit c), none) := by
  apply h.digit.call (by rfl)
  unfold isDigit
  by_cases h1 : 48 ≤ c.toNat
  · have h1' : (48 : Int) ≤ c.toNat := by omega
    by_cases h2 : c.toNat ≤ 57
    · have h2' : (c.toNat : Int) ≤ 57 := by omega
      simp [C_ref03_digit, avByte, h1, h1', h2, h2']
    · have h2' : ¬ (c.toNat : Int) ≤ 57 := by omega
      simp [C_ref03_digit, avByte, h1, h1', h2, h2']
  · have h1' : ¬ (48 : Int) ≤ c.toNat := by omega
    simp [C_ref03_digit, avByte, h1, h1']
theorem ref03_high_call (h : Ref03S Γ A N) (c : UInt8) (H : Hp) : (lim Γ A).call (f_ref03_high N) [avByte c] H = some (avBool (isHigh c), none) := by
  apply h.high.call (by rfl)
  unfold isHigh
  by_cases h1 : 65 ≤ c.toNat
  · have h1' : (65 : Int) ≤ c.toNat := by omega
    by_cases h2 : c.toNat ≤ 90
    · have h2' : (c.toNat : Int) ≤ 90 := by omega
      simp [C_ref03_high, avByte, h1, h1', h2, h2']
    · have h2' : ¬ (c.toNat : Int) ≤ 90 := by omega
      simp [C_ref03_high, avByte, h1, h1', h2, h2']
  · have h1' : ¬ (65 : Int) ≤ c.toNat := by omega
    simp [C_ref03_high, avByte, h1, h1']
theorem ref03_hex_call (h : Ref03S Γ A N) (c : UInt8) (H : Hp) : (lim Γ A).call (f_ref03_hex N) [avByte c] H = some (avBool (isHex c), none) := by
  apply h.hex.call (by rfl)
  have hd := ref03_digit_call h c
  unfold isHex
  cases h0 : isDigit c <;> rw [h0] at hd
  · by_cases h1 : 97 ≤ c.toNat
    · have h1' : (97 : Int) ≤ c.toNat := by omega
      by_cases h2 : c.toNat ≤ 102
      · have h2' : (c.toNat : Int) ≤ 102 := by omega
        simp [C_ref03_hex, hd, h1, h1', h2, h2']
      · have h2' : ¬ (c.toNat : Int) ≤ 102 := by omega
        simp [C_ref03_hex, hd, h1, h1', h2, h2']
    · have h1' : ¬ (97 : Int) ≤ c.toNat := by omega
      simp [C_ref03_hex, hd, h1, h1']
  · simp [C_ref03_hex, hd]

/-- How many of the first bytes are a name's. -/
def nameB (s : List UInt8) : Nat := match s with | [] => 0 | c :: r => if isLow c = true then 1 + runB isInName r else 0
theorem ref03_name_call (h : Ref03S Γ A N) {x : AV} {b : List UInt8} (H : Hp) (hx : VBytes H x b) (hl : b.length < 2 ^ 36) (a : Nat) (ha : a ≤ b.length) :
    (lim Γ A).call (f_ref03_name N) [x, avInt .i64 a] H = some (avInt .i64 (nameB (b.drop a)), none) := by
  apply h.name.call (by rfl)
  have hlen := Vw.len hx
  rw [List.length_map] at hlen
  have hx0 : VBytes { l := H.l, d := none } x b := hx.dd none
  by_cases hlt : a < b.length
  · have hlt' : ¬ (b.length : Int) ≤ a := by omega
    obtain ⟨p, hp1, hp2⟩ := VBytes.at' hx0 (k := .i64) (i := (a : Int)) (by omega) (by simpa using hlt)
    simp only [Int.toNat_natCast] at hp1 hp2
    have hd : b.drop a = b[a] :: b.drop (a + 1) := List.drop_eq_getElem_cons hlt
    have hlow := ref03_low_call h b[a]
    rw [hd]
    generalize b[a] = c at *
    cases h1 : isLow c <;> rw [h1] at hlow
    · rw [show nameB (c :: b.drop (a + 1)) = 0 from by simp [nameB, h1]]
      simp [C_ref03_name, hlen, hlt', hp1, hp2, hlow]
    · rw [show nameB (c :: b.drop (a + 1)) = 1 + runB isInName (b.drop (a + 1)) from by simp [nameB, h1]]
      simp [C_ref03_name, hlen, hlt', hp1, hp2, hlow, -Int.natCast_add]
      refine wp_round (fun k ρ H' => H' = { l := H.l, d := none } ∧ ∃ i : Nat, ρ 0 = x ∧ ρ 1 = avInt .i64 a ∧ ρ 5 = avInt .i64 i ∧ a + i ≤ b.length ∧ 1 + runB isInName (b.drop (a + 1)) = i + runB isInName (b.drop (a + i)) ∧ k = b.length - (a + i)) (n := b.length - (a + 1)) ⟨rfl, 1, rfl, rfl, rfl, by omega, rfl, rfl⟩ ?_
      rintro k ρ H' ⟨rfl, i, r0, r1, r5, hi, hr, rfl⟩
      have hw : IntKind.wrap .i64 ((a : Int) + (i : Int)) = ((a + i : Nat) : Int) := by rw [wrap64 (by omega) (by omega)]; omega
      by_cases hil : a + i < b.length
      · have hil' : ((a + i : Nat) : Int) < b.length := by omega
        obtain ⟨q, hq1, hq2⟩ := VBytes.at' hx0 (k := .i64) (i := ((a + i : Nat) : Int)) (by omega) (by rw [Int.toNat_natCast]; exact hil)
        simp only [Int.toNat_natCast] at hq1 hq2
        have hd2 : b.drop (a + i) = b[a + i] :: b.drop (a + i + 1) := List.drop_eq_getElem_cons hil
        have hlow2 := ref03_low_call h b[a + i]
        have hdig2 := ref03_digit_call h b[a + i]
        rw [hd2] at hr
        generalize b[a + i] = e at *
        have hw2 : IntKind.wrap .i64 ((i : Int) + 1) = ((i + 1 : Nat) : Int) := by rw [wrap64 (by omega) (by omega)]; omega
        have go : isInName e = true → 1 + runB isInName (b.drop (a + 1)) = i + 1 + runB isInName (b.drop (a + (i + 1))) := by
          intro he
          rw [hr, ← Nat.add_assoc]
          simp [runB, he]
          omega
        cases h2 : isLow e <;> rw [h2] at hlow2
        · cases h3 : isDigit e <;> rw [h3] at hdig2
          · have : runB isInName (e :: b.drop (a + i + 1)) = 0 := runB_stop (by simp [isInName, h2, h3])
            rw [this] at hr
            simp [L_ref03_name_1, K_ref03_name_1, r0, r1, r5, hw, hlen, hil', hq1, hq2, hlow2, hdig2, hr, -Int.natCast_add]
          · simp [L_ref03_name_1, r0, r1, r5, hw, hw2, hlen, hil', hq1, hq2, hlow2, hdig2, -Int.natCast_add]
            exact ⟨b.length - (a + (i + 1)), by omega, i + 1, rfl, by omega, go (by simp [isInName, h3]), rfl⟩
        · simp [L_ref03_name_1, r0, r1, r5, hw, hw2, hlen, hil', hq1, hq2, hlow2, -Int.natCast_add]
          exact ⟨b.length - (a + (i + 1)), by omega, i + 1, rfl, by omega, go (by simp [isInName, h2]), rfl⟩
      · have hil' : ¬ ((a + i : Nat) : Int) < b.length := by omega
        rw [show b.drop (a + i) = [] from List.drop_of_length_le (by omega)] at hr
        have hr' : 1 + runB isInName (b.drop (a + 1)) = i := by rw [hr]; rfl
        simp [L_ref03_name_1, K_ref03_name_1, r0, r1, r5, hw, hlen, hil', hr', -Int.natCast_add]
  · have hlt' : (b.length : Int) ≤ a := by omega
    rw [List.drop_of_length_le (by omega)]
    simp [C_ref03_name, hlen, hlt', nameB]
end
end Go.Proofs.Eng
/- Digits' numbers. -/
set_option linter.unusedVariables false
set_option linter.unusedSimpArgs false
namespace Go.Proofs.Eng
open Go
def addD (x : Nat) (c : UInt8) : Nat := x * 10 + (c.toNat - 48)
def numA (x : Nat) (s : List UInt8) : Nat := s.foldl addD x
def numD (s : List UInt8) : Nat := numA 0 s
theorem numA_cons (x : Nat) (c : UInt8) (s : List UInt8) : numA x (c :: s) = numA (addD x c) s := _root_.id rfl
theorem numA_snoc (x : Nat) (s : List UInt8) (c : UInt8) : numA x (s ++ [c]) = addD (numA x s) c := by
  unfold numA
  rw [List.foldl_append]
  exact _root_.id rfl
theorem numA_add (x : Nat) (s : List UInt8) : numA x s = x * 10 ^ s.length + numA 0 s := by
  induction s generalizing x with
  | nil => simp [numA]
  | cons a s ih =>
    rw [numA_cons, numA_cons, ih (addD x a), ih (addD 0 a)]
    unfold addD
    rw [List.length_cons, Nat.pow_succ, Nat.add_mul, Nat.mul_assoc, Nat.mul_comm 10, Nat.zero_mul, Nat.zero_add, Nat.add_assoc]
theorem numD_cons (c : UInt8) (s : List UInt8) : numD (c :: s) = (c.toNat - 48) * 10 ^ s.length + numD s := by
  unfold numD
  rw [numA_cons, numA_add]
  unfold addD
  rw [Nat.zero_mul, Nat.zero_add]
theorem dig {c : UInt8} (h : isDigit c = true) : 48 ≤ c.toNat ∧ c.toNat ≤ 57 := by simpa [isDigit] using h
theorem numD_lt {s : List UInt8} (h : s.all isDigit = true) : numD s < 10 ^ s.length := by
  induction s with
  | nil => simp [numD, numA]
  | cons c s ih =>
    simp only [List.all_cons, Bool.and_eq_true] at h
    have := ih h.2
    have hd := dig h.1
    rw [numD_cons, List.length_cons, Nat.pow_succ]
    have h2 : (c.toNat - 48) * 10 ^ s.length ≤ 9 * 10 ^ s.length := Nat.mul_le_mul_right _ (by omega)
    omega
theorem numD_ge {c : UInt8} {s : List UInt8} (h : 49 ≤ c.toNat) : 10 ^ s.length ≤ numD (c :: s) := by
  rw [numD_cons]
  have : 1 * 10 ^ s.length ≤ (c.toNat - 48) * 10 ^ s.length := Nat.mul_le_mul_right _ (by omega)
  omega
theorem numD_lss : ∀ (s t : List UInt8), s.length = t.length → s.all isDigit = true → t.all isDigit = true → (Op.bytesLess s t = true ↔ numD s < numD t)
  | [], [], _, _, _ => by simp [Op.bytesLess]
  | [], _ :: _, h, _, _ => by simp at h
  | _ :: _, [], h, _, _ => by simp at h
  | a :: s, b :: t, h, hs, ht => by
    simp only [List.length_cons, Nat.add_right_cancel_iff] at h
    simp only [List.all_cons, Bool.and_eq_true] at hs ht
    have ih := numD_lss s t h hs.2 ht.2
    have ls := numD_lt hs.2
    have lt := numD_lt ht.2
    have da := dig hs.1
    have db := dig ht.1
    rw [numD_cons, numD_cons, ← h]
    rw [← h] at lt
    generalize 10 ^ s.length = p at *
    have hb : Op.bytesLess (a :: s) (b :: t) = (decide (a < b) || (a == b && Op.bytesLess s t)) := _root_.id rfl
    rw [hb, Bool.or_eq_true, decide_eq_true_eq, Bool.and_eq_true, beq_iff_eq, ih, UInt8.lt_iff_toNat_lt]
    constructor
    · rintro (h1 | ⟨rfl, h1⟩)
      · have : (a.toNat - 48 + 1) * p ≤ (b.toNat - 48) * p := Nat.mul_le_mul_right _ (by omega)
        rw [Nat.add_mul] at this
        omega
      · omega
    · intro h1
      rcases Nat.lt_trichotomy a.toNat b.toNat with h2 | h2 | h2
      · exact .inl h2
      · have : a = b := UInt8.toNat_inj.1 h2
        subst this
        exact .inr ⟨rfl, by omega⟩
      · have : (b.toNat - 48 + 1) * p ≤ (a.toNat - 48) * p := Nat.mul_le_mul_right _ (by omega)
        rw [Nat.add_mul] at this
        omega
theorem numD_inj : ∀ (s t : List UInt8), s.length = t.length → s.all isDigit = true → t.all isDigit = true → numD s = numD t → s = t := by
  intro s t h hs ht e
  have tot : ∀ (s t : List UInt8), s.length = t.length → Op.bytesLess s t = false → Op.bytesLess t s = false → s = t := by
    intro s
    induction s with
    | nil => intro t h _ _; cases t with | nil => rfl | cons => simp at h
    | cons a s ih =>
      intro t h h1 h2
      cases t with
      | nil => simp at h
      | cons b t =>
        have e1 : Op.bytesLess (a :: s) (b :: t) = (decide (a < b) || (a == b && Op.bytesLess s t)) := _root_.id rfl
        have e2 : Op.bytesLess (b :: t) (a :: s) = (decide (b < a) || (b == a && Op.bytesLess t s)) := _root_.id rfl
        rw [e1, Bool.or_eq_false_iff, decide_eq_false_iff_not, UInt8.lt_iff_toNat_lt] at h1
        rw [e2, Bool.or_eq_false_iff, decide_eq_false_iff_not, UInt8.lt_iff_toNat_lt] at h2
        have hab : a = b := UInt8.toNat_inj.1 (by omega)
        subst hab
        simp only [beq_self_eq_true, Bool.true_and] at h1 h2
        rw [ih t (by simpa using h) h1.2 h2.2]
  refine tot s t h ?_ ?_
  · rw [Bool.eq_false_iff]; intro k; have := (numD_lss s t h hs ht).1 k; omega
  · rw [Bool.eq_false_iff]; intro k; have := (numD_lss t s h.symm ht hs).1 k; omega
theorem greatest_val : numD greatest = 9223372036854775807 := by decide +kernel
theorem numberB_eq {s : List UInt8} (hs : s.all isDigit = true) (hne : s ≠ []) :
    numberB s = (decide (numD s ≤ 9223372036854775807) && (decide (s.length = 1) || !(s.head?.map fun c => decide (c.toNat = 48)).getD false)) := by
  obtain ⟨c, r, rfl⟩ : ∃ c r, s = c :: r := by cases s with | nil => exact absurd rfl hne | cons c r => exact ⟨c, r, rfl⟩
  have hd := dig (by simpa using (List.all_eq_true.1 hs) c List.mem_cons_self)
  have hlt := numD_lt hs
  unfold numberB
  simp only [List.head?_cons, Option.map_some, Option.getD_some]
  by_cases hr : r.length = 0
  · have h1 : (c :: r).length = 1 := by simp [hr]
    rw [h1] at hlt ⊢
    have : numD (c :: r) ≤ 9223372036854775807 := by omega
    simp [this]
  · have hl : 1 < (c :: r).length := by simp; omega
    have hl2 : ¬ (c :: r).length = 1 := by omega
    by_cases h48 : c.toNat = 48
    · simp only [h48, hl, hl2, decide_true, decide_false, Bool.and_self, Bool.not_true, Bool.false_and, Bool.or_self, Bool.and_false, Bool.or_false]
    · have hge := numD_ge (c := c) (s := r) (by omega)
      have hlen : (c :: r).length = r.length + 1 := rfl
      rcases Nat.lt_trichotomy (c :: r).length 19 with h | h | h
      · have : 10 ^ (c :: r).length ≤ 10 ^ 18 := Nat.pow_le_pow_right (by omega) (by omega)
        have h2 : numD (c :: r) ≤ 9223372036854775807 := by omega
        simp only [h, h2, h48, hl, hl2, decide_true, decide_false, Bool.and_false, Bool.not_false, Bool.true_or, Bool.true_and, Bool.false_or]
      · have e1 := numD_lss (c :: r) greatest (by rw [h]; rfl) hs (by decide)
        have e2 := numD_inj (c :: r) greatest (by rw [h]; rfl) hs (by decide)
        rw [greatest_val] at e1 e2
        have h3 : ¬ (c :: r).length < 19 := by omega
        have key : (Op.bytesLess (c :: r) greatest || (c :: r) == greatest) = decide (numD (c :: r) ≤ 9223372036854775807) := by
          rw [Bool.eq_iff_iff, Bool.or_eq_true, e1, beq_iff_eq, decide_eq_true_eq]
          constructor
          · rintro (h1 | h1)
            · omega
            · rw [h1, greatest_val]; omega
          · intro h1
            rcases Nat.lt_or_ge (numD (c :: r)) 9223372036854775807 with h4 | h4
            · exact .inl h4
            · exact .inr (e2 (by omega))
        rw [key]
        simp only [h, h3, h48, hl, hl2, decide_true, decide_false, Bool.and_false, Bool.not_false, Bool.true_or, Bool.true_and, Bool.false_or, Bool.and_true]
        simp
      · have : 10 ^ 19 ≤ 10 ^ r.length := Nat.pow_le_pow_right (by omega) (by omega)
        have h2 : ¬ numD (c :: r) ≤ 9223372036854775807 := by omega
        have h3 : ¬ (c :: r).length < 19 := by omega
        have h4 : ¬ (c :: r).length = 19 := by omega
        simp only [h2, h3, h4, decide_false, Bool.false_and, Bool.false_or, Bool.and_false]
end Go.Proofs.Eng
/- The reference of chapter 3, run by the engine: numbers, strings, signs. -/
set_option linter.unusedVariables false
set_option linter.unusedSimpArgs false
set_option maxRecDepth 100000
namespace Go.Proofs.Eng
open Go
section
variable {Γ : Sums} {A : Tab} {N : Nat → Nat}
@[simp] theorem abin_subB {c : UInt8} {n : Int} : abin .sub (avByte c) (.lit (.int .u8 n)) = some (avInt .u8 (IntKind.wrap .u8 (c.toNat - n))) := by simp [avByte]

def numOk (s : List UInt8) : Bool := decide (numD (s.take (runB isDigit s)) ≤ 9223372036854775807) && (decide (runB isDigit s = 1) || !(s.head?.map fun c => decide (c.toNat = 48)).getD false)
theorem ref03_number_call (h : Ref03S Γ A N) {x : AV} {b : List UInt8} (H : Hp) (hx : VBytes H x b) (hl : b.length < 2 ^ 36) (a : Nat) (ha : a < b.length) :
    (lim Γ A).call (f_ref03_number N) [x, avInt .i64 a] H = some (.tup [avInt .i64 (runB isDigit (b.drop a)), avBool (numOk (b.drop a))], none) := by
  apply h.number.call (by rfl)
  have hlen := Vw.len hx
  rw [List.length_map] at hlen
  have hx0 : VBytes { l := H.l, d := none } x b := hx.dd none
  have hsl : (b.drop a).length = b.length - a := List.length_drop
  simp [C_ref03_number, -Int.natCast_add]
  refine wp_round (fun k ρ H' => H' = { l := H.l, d := none } ∧ ∃ (i xv : Nat), ρ 0 = x ∧ ρ 1 = avInt .i64 a ∧ ρ 6 = avInt .i64 i ∧ ρ 7 = avInt .u64 xv ∧ ρ 8 = avBool (decide (numD ((b.drop a).take i) ≤ 9223372036854775807)) ∧ a + i ≤ b.length ∧
      xv ≤ 9223372036854775807 ∧ (numD ((b.drop a).take i) ≤ 9223372036854775807 → xv = numD ((b.drop a).take i)) ∧ runB isDigit (b.drop a) = i + runB isDigit ((b.drop a).drop i) ∧ k = b.length - (a + i)) (n := b.length - a) ?_ ?_
  · exact ⟨rfl, 0, 0, rfl, rfl, rfl, rfl, rfl, by omega, by omega, fun _ => rfl, by simp, by simp⟩
  rintro k ρ H' ⟨rfl, i, xv, r0, r1, r6, r7, r8, hi, hxv, hxe, hr, rfl⟩
  have hw : IntKind.wrap .i64 ((a : Int) + (i : Int)) = ((a + i : Nat) : Int) := by rw [wrap64 (by omega) (by omega)]; omega
  have fin : runB isDigit ((b.drop a).drop i) = 0 → ∀ ρ : Rho, ρ 0 = x → ρ 1 = avInt .i64 a → ρ 6 = avInt .i64 i → ρ 8 = avBool (decide (numD ((b.drop a).take i) ≤ 9223372036854775807)) →
      wp (lim Γ A) none (K_ref03_number_1 N) ρ { l := H.l, d := none } (Ends [.inl 4, .inl 5] false H fun p => p = (.tup [avInt .i64 (runB isDigit (b.drop a)), avBool (numOk (b.drop a))], none)) := by
    intro hz ρ r0 r1 r6 r8
    rw [hz, Nat.add_zero] at hr
    obtain ⟨p, hp1, hp2⟩ := VBytes.at' hx0 (k := .i64) (i := (a : Int)) (by omega) (by simpa using ha)
    simp only [Int.toNat_natCast] at hp1 hp2
    have hd : b.drop a = b[a] :: b.drop (a + 1) := List.drop_eq_getElem_cons ha
    have hh : (b.drop a).head? = some b[a] := by rw [hd]; rfl
    unfold numOk
    rw [hr, hh]
    generalize b[a] = c at *
    generalize numD ((b.drop a).take i) = v at *
    by_cases g1 : v ≤ 9223372036854775807
    · by_cases g2 : i = 1
      · have g2' : (i : Int) = 1 := by omega
        simp [K_ref03_number_1, r0, r1, r6, r8, g1, g2, g2']
      · have g2' : ¬ (i : Int) = 1 := by omega
        by_cases g3 : c.toNat = 48
        · have g3' : (c.toNat : Int) = 48 := by omega
          simp [K_ref03_number_1, r0, r1, r6, r8, g1, g2, g2', hp1, hp2, g3, g3']
        · have g3' : ¬ (c.toNat : Int) = 48 := by omega
          simp [K_ref03_number_1, r0, r1, r6, r8, g1, g2, g2', hp1, hp2, g3, g3']
    · simp [K_ref03_number_1, r0, r1, r6, r8, g1]
  by_cases hil : a + i < b.length
  · have hil' : ((a + i : Nat) : Int) < b.length := by omega
    obtain ⟨q, hq1, hq2⟩ := VBytes.at' hx0 (k := .i64) (i := ((a + i : Nat) : Int)) (by omega) (by rw [Int.toNat_natCast]; exact hil)
    simp only [Int.toNat_natCast] at hq1 hq2
    have hd2 : (b.drop a).drop i = b[a + i] :: (b.drop a).drop (i + 1) := by
      rw [List.drop_drop, List.drop_drop, List.drop_eq_getElem_cons hil, Nat.add_assoc]
    have htk : (b.drop a).take (i + 1) = (b.drop a).take i ++ [b[a + i]] := by
      rw [List.take_succ_eq_append_getElem (by omega)]
      simp
    have hdig2 := ref03_digit_call h b[a + i]
    rw [hd2] at hr fin
    generalize b[a + i] = e at *
    cases hde : isDigit e <;> rw [hde] at hdig2
    · have hz := runB_stop (p := isDigit) (a := e) (s := (b.drop a).drop (i + 1)) hde
      simp [L_ref03_number_1, r0, r1, r6, r7, r8, hw, hlen, hil', hq1, hq2, hdig2, -Int.natCast_add]
      refine fin hz _ ?_ ?_ ?_ ?_ <;> simp [r0, r1, r6, r8]
    · have hdd := dig hde
      have hw2 : IntKind.wrap .i64 ((i : Int) + 1) = ((i + 1 : Nat) : Int) := by rw [wrap64 (by omega) (by omega)]; omega
      have hwd : IntKind.wrap .u8 ((e.toNat : Int) - 48) = ((e.toNat - 48 : Nat) : Int) := by rw [wrap8]; omega
      have hwu : IntKind.wrap .u64 ((e.toNat - 48 : Nat) : Int) = ((e.toNat - 48 : Nat) : Int) := by rw [wrapu64]; omega
      have hnd : numD ((b.drop a).take (i + 1)) = numD ((b.drop a).take i) * 10 + (e.toNat - 48) := by rw [htk]; exact numA_snoc _ _ _
      have hr2 : runB isDigit (b.drop a) = i + 1 + runB isDigit ((b.drop a).drop (i + 1)) := by
        rw [hr]; simp [runB, hde]; omega
      have hds : ((e.toNat - 48 : Nat) : Int) ≤ 9 := by omega
      generalize hdv : e.toNat - 48 = d at *
      generalize hv : numD ((b.drop a).take i) = v at *
      have d7 : (7 : Int) < (d : Int) ↔ 7 < d := by omega
      have x1 : (922337203685477580 : Int) < (xv : Int) ↔ 922337203685477580 < xv := by omega
      have x2 : (xv : Int) = 922337203685477580 ↔ xv = 922337203685477580 := by omega
      rw [List.drop_drop] at hr2
      by_cases gv : v ≤ 9223372036854775807
      · have hxv2 := hxe gv
        subst hxv2
        by_cases g1 : 922337203685477580 < xv
        · have hov : ¬ numD ((b.drop a).take (i + 1)) ≤ 9223372036854775807 := by omega
          simp [L_ref03_number_1, r0, r1, r6, r7, r8, hw, hw2, hlen, hil', hq1, hq2, hdig2, hwd, hwu, x1, x2, d7, g1, gv, -Int.natCast_add]
          exact ⟨_, by omega, i + 1, rfl, xv, rfl, by omega, by omega, hxv, fun k => absurd k hov, hr2, rfl⟩
        · by_cases g2 : xv = 922337203685477580
          · by_cases g3 : 7 < d
            · have hov : ¬ numD ((b.drop a).take (i + 1)) ≤ 9223372036854775807 := by omega
              simp [L_ref03_number_1, r0, r1, r6, r7, r8, hw, hw2, hlen, hil', hq1, hq2, hdig2, hwd, hwu, x1, x2, d7, g1, g2, g3, -Int.natCast_add]
              exact ⟨_, by omega, i + 1, rfl, xv, by rw [g2]; rfl, by omega, by omega, hxv, fun k => absurd k hov, hr2, rfl⟩
            · have hwm : IntKind.wrap .u64 ((xv : Int) * 10) = ((xv * 10 : Nat) : Int) := by rw [wrapu64]; omega
              have hwm2 : IntKind.wrap .u64 (((xv * 10 : Nat) : Int) + (d : Int)) = ((xv * 10 + d : Nat) : Int) := by rw [wrapu64]; omega
              have x1' : ¬ (922337203685477580 : Int) < (xv : Int) := by omega
              have x2' : (xv : Int) = 922337203685477580 := by omega
              simp [L_ref03_number_1, r0, r1, r6, r7, r8, hw, hw2, hlen, hil', hq1, hq2, hdig2, hwd, hwu, d7, x1', x2', g3, gv, -Int.natCast_add]
              exact ⟨_, by omega, i + 1, rfl, xv * 10 + d, by rw [wrapu64, wrapu64]; omega, by omega, by omega, by omega, fun _ => hnd.symm, hr2, rfl⟩
          · have hwm : IntKind.wrap .u64 ((xv : Int) * 10) = ((xv * 10 : Nat) : Int) := by rw [wrapu64]; omega
            have hwm2 : IntKind.wrap .u64 (((xv * 10 : Nat) : Int) + (d : Int)) = ((xv * 10 + d : Nat) : Int) := by rw [wrapu64]; omega
            simp [L_ref03_number_1, r0, r1, r6, r7, r8, hw, hw2, hlen, hil', hq1, hq2, hdig2, hwd, hwu, x1, x2, d7, g1, g2, gv, hwm, hwm2, -Int.natCast_add, -Int.natCast_mul]
            exact ⟨_, by omega, i + 1, rfl, xv * 10 + d, rfl, by omega, by omega, by omega, fun _ => hnd.symm, hr2, rfl⟩
      · have hov : ¬ numD ((b.drop a).take (i + 1)) ≤ 9223372036854775807 := by omega
        by_cases g1 : 922337203685477580 < xv
        · simp [L_ref03_number_1, r0, r1, r6, r7, r8, hw, hw2, hlen, hil', hq1, hq2, hdig2, hwd, hwu, x1, x2, d7, g1, gv, -Int.natCast_add]
          exact ⟨_, by omega, i + 1, rfl, xv, rfl, by omega, by omega, hxv, fun k => absurd k hov, hr2, rfl⟩
        · by_cases g2 : xv = 922337203685477580
          · have x1' : ¬ (922337203685477580 : Int) < (xv : Int) := by omega
            have x2' : (xv : Int) = 922337203685477580 := by omega
            by_cases g3 : 7 < d
            · simp [L_ref03_number_1, r0, r1, r6, r7, r8, hw, hw2, hlen, hil', hq1, hq2, hdig2, hwd, hwu, d7, x1', x2', g3, gv, -Int.natCast_add]
              exact ⟨_, by omega, i + 1, rfl, xv, by rw [g2]; rfl, by omega, by omega, hxv, fun k => absurd k hov, hr2, rfl⟩
            · simp [L_ref03_number_1, r0, r1, r6, r7, r8, hw, hw2, hlen, hil', hq1, hq2, hdig2, hwd, hwu, d7, x1', x2', g3, gv, -Int.natCast_add]
              exact ⟨_, by omega, i + 1, rfl, xv, by rw [g2]; rfl, by omega, by omega, hxv, fun k => absurd k hov, hr2, rfl⟩
          · simp [L_ref03_number_1, r0, r1, r6, r7, r8, hw, hw2, hlen, hil', hq1, hq2, hdig2, hwd, hwu, x1, x2, d7, g1, g2, gv, -Int.natCast_add]
            exact ⟨_, by omega, i + 1, rfl, xv, rfl, by omega, by omega, hxv, fun k => absurd k hov, hr2, rfl⟩
  · have hil' : ¬ ((a + i : Nat) : Int) < b.length := by omega
    have hz : runB isDigit ((b.drop a).drop i) = 0 := by rw [List.drop_drop, List.drop_of_length_le (by omega)]; rfl
    simp [L_ref03_number_1, r0, r1, r6, r7, r8, hw, hlen, hil', -Int.natCast_add]
    refine fin hz _ ?_ ?_ ?_ ?_ <;> simp [r0, r1, r6, r8]

/-- The string behind a quote: as the reference tells it. -/
theorem ref03_str_call (h : Ref03S Γ A N) {x : AV} {b : List UInt8} (H : Hp) (hx : VBytes H x b) (hl : b.length < 2 ^ 36) (a : Nat) (ha : a < b.length) :
    (lim Γ A).call (f_ref03_str N) [x, avInt .i64 a] H = some (match textB (b.drop (a + 1)) with | none => .tup [avStr [], avInt .i64 0] | some (t, n) => .tup [avStr t, avInt .i64 ((n + 1 : Nat) : Int)], none) := by
  obtain ⟨R, hR⟩ : ∃ R : AV × Option Hp → Prop, R = fun r => r = (match textB (b.drop (a + 1)) with | none => .tup [avStr [], avInt .i64 0] | some (t, n) => .tup [avStr t, avInt .i64 ((n + 1 : Nat) : Int)], none) := ⟨_, rfl⟩
  have key : ∃ r, (lim Γ A).call (f_ref03_str N) [x, avInt .i64 a] H = some r ∧ R r := by
    apply h.str.callP (by rfl)
    have hlen := Vw.len hx
    rw [List.length_map] at hlen
    have hw0 : IntKind.wrap .i64 ((a : Int) + 1) = ((a + 1 : Nat) : Int) := by rw [wrap64 (by omega) (by omega)]; omega
    simp [C_ref03_str, hw0, -Int.natCast_add]
    refine wp_round (fun k ρ H' => ∃ (i : Nat) (pre : List UInt8) (os : List (Nat × AObj)), Loc H H' os ∧ ρ 0 = x ∧ ρ 1 = avInt .i64 a ∧ ρ 6 = avStr pre ∧ ρ 7 = avInt .i64 i ∧ i ≤ b.length ∧ a + 1 ≤ i ∧ pre.length ≤ i ∧
        textB (b.drop (a + 1)) = (textB (b.drop i)).map (fun q => (pre ++ q.1, q.2 + (i - (a + 1)))) ∧ k = b.length - i) (n := b.length - (a + 1)) ?_ ?_
    · exact ⟨a + 1, [], [], Loc.start H, rfl, rfl, rfl, rfl, by omega, by omega, by simp, by simp, rfl⟩
    · rintro k ρ H' ⟨i, pre, os, hL, r0, r1, r6, r7, hi, hai, hpl, ht, rfl⟩
      have hx0 : VBytes H' x b := Vw.loc hx hL
      have bad : textB (b.drop (a + 1)) = none → R (settle H (.tup [avStr [], avInt .i64 0]) H') := by
        intro e
        rw [settle_keeps (v := .tup [avStr [], avInt .i64 0]) hL.keeps (by simp), hR]
        simp [e]
      by_cases hlt : i < b.length
      · have hlt' : (i : Int) < b.length := by omega
        obtain ⟨q, hq1, hq2⟩ := VBytes.at' hx0 (k := .i64) (i := (i : Int)) (by omega) (by simpa using hlt)
        simp only [Int.toNat_natCast] at hq1 hq2
        have hd : b.drop i = b[i] :: b.drop (i + 1) := List.drop_eq_getElem_cons hlt
        have hsl : (b.drop i).take 1 = [b[i]] := by rw [hd]; rfl
        have hw : IntKind.wrap .i64 ((i : Int) + 1) = ((i + 1 : Nat) : Int) := by rw [wrap64 (by omega) (by omega)]; omega
        have hw3 : IntKind.wrap .i64 (((i + 1 : Nat) : Int) - (a : Int)) = ((i + 1 - a : Nat) : Int) := by rw [wrap64 (by omega) (by omega)]; omega
        obtain ⟨y, hy1, hy2⟩ := Vw.cut hx0 (k := .i64) (k' := .i64) (i := (i : Int)) (j := ((i + 1 : Nat) : Int)) (by omega) (by omega) (by rw [List.length_map]; omega)
        generalize hc : b[i] = c at *
        rw [hd] at ht
        by_cases c34 : c.toNat = 34
        · have c34' : (c.toNat : Int) = 34 := by omega
          have ht2 : textB (b.drop (a + 1)) = some (pre, 1 + (i - (a + 1))) := by rw [ht, textB_cons, if_pos c34]; simp
          have hk := settle_keeps (v := .tup [avStr pre, avInt .i64 ((i + 1 - a : Nat) : Int)]) hL.keeps (by simp)
          simp [L_ref03_str_1, r0, r1, r6, r7, hlen, hlt', hq1, hq2, c34', hw, hw3, hk, -Int.natCast_add]
          rw [hR, ht2]
          simp only []
          rw [show 1 + (i - (a + 1)) + 1 = i + 1 - a from by omega]
        · have c34' : ¬ (c.toNat : Int) = 34 := by omega
          by_cases c32 : c.toNat < 32
          · have c32' : (c.toNat : Int) < 32 := by omega
            simp [L_ref03_str_1, r0, r1, r6, r7, hlen, hlt', hq1, hq2, c34', c32', -Int.natCast_add]
            refine bad ?_
            rw [ht, textB_cons, if_neg c34, if_pos c32]; rfl
          · have c32' : ¬ (c.toNat : Int) < 32 := by omega
            by_cases c92 : c.toNat = 92
            · have c92' : (c.toNat : Int) = 92 := by omega
              have hw2 : IntKind.wrap .i64 ((i : Int) + 2) = ((i + 2 : Nat) : Int) := by rw [wrap64 (by omega) (by omega)]; omega
              by_cases hge : b.length ≤ i + 1
              · have hge' : (b.length : Int) ≤ ((i + 1 : Nat) : Int) := by omega
                simp [L_ref03_str_1, r0, r1, r6, r7, hlen, hlt', hq1, hq2, c34', c32', c92', hw, hge', -Int.natCast_add]
                refine bad ?_
                rw [ht, textB_cons, if_neg c34, if_neg c32, if_pos c92, List.drop_of_length_le (by omega)]; rfl
              have hge' : ¬ (b.length : Int) ≤ ((i + 1 : Nat) : Int) := by omega
              have hlt2 : i + 1 < b.length := by omega
              obtain ⟨q', hq3, hq4⟩ := VBytes.at' hx0 (k := .i64) (i := ((i + 1 : Nat) : Int)) (by omega) (by rw [Int.toNat_natCast]; exact hlt2)
              simp only [Int.toNat_natCast] at hq3 hq4
              have hd2 : b.drop (i + 1) = b[i + 1] :: b.drop (i + 2) := List.drop_eq_getElem_cons hlt2
              generalize hdd : b[i + 1] = d at *
              rw [hd2] at ht
              by_cases d0 : d.toNat = 34
              · have d0' : (d.toNat : Int) = 34 := by omega
                have hed : escB d = some 34 := by unfold escB; simp [d0]
                have hadd := abin_strAdd (s := mkS pre) (t := mkS [34]) (by simp; omega)
                simp only [bl_mkS] at hadd
                have hb1 : bytesOf [.lit (.int .u8 34)] = some [34] := rfl
                simp [L_ref03_str_1, r0, r1, r6, r7, hlen, hlt', hq1, hq2, c34', c32', c92', hw, hge', hq3, hq4, d0', asElems, hb1, hadd, hw2, -Int.natCast_add]
                refine ⟨_, ?_, ⟨_, hL.alloc _⟩, i + 2, pre ++ [34], rfl, rfl, by omega, by omega, by simp; omega, ?_, rfl⟩
                · omega
                · rw [ht, textB_cons, if_neg c34, if_neg c32, if_pos c92]
                  simp only [hed, Option.map_map]
                  congr 1
                  funext q
                  simp
                  omega
              have d0n : ¬ (d.toNat : Int) = 34 := by omega
              by_cases d1 : d.toNat = 92
              · have d1' : (d.toNat : Int) = 92 := by omega
                have hed : escB d = some 92 := by unfold escB; simp [d1]
                have hadd := abin_strAdd (s := mkS pre) (t := mkS [92]) (by simp; omega)
                simp only [bl_mkS] at hadd
                have hb1 : bytesOf [.lit (.int .u8 92)] = some [92] := rfl
                simp [L_ref03_str_1, r0, r1, r6, r7, hlen, hlt', hq1, hq2, c34', c32', c92', hw, hge', hq3, hq4, d0n, d1', asElems, hb1, hadd, hw2, -Int.natCast_add]
                refine ⟨_, ?_, ⟨_, hL.alloc _⟩, i + 2, pre ++ [92], rfl, rfl, by omega, by omega, by simp; omega, ?_, rfl⟩
                · omega
                · rw [ht, textB_cons, if_neg c34, if_neg c32, if_pos c92]
                  simp only [hed, Option.map_map]
                  congr 1
                  funext q
                  simp
                  omega
              have d1n : ¬ (d.toNat : Int) = 92 := by omega
              by_cases d2 : d.toNat = 110
              · have d2' : (d.toNat : Int) = 110 := by omega
                have hed : escB d = some 10 := by unfold escB; simp [d2]
                have hadd := abin_strAdd (s := mkS pre) (t := mkS [10]) (by simp; omega)
                simp only [bl_mkS] at hadd
                have hb1 : bytesOf [.lit (.int .u8 10)] = some [10] := rfl
                simp [L_ref03_str_1, r0, r1, r6, r7, hlen, hlt', hq1, hq2, c34', c32', c92', hw, hge', hq3, hq4, d0n, d1n, d2', asElems, hb1, hadd, hw2, -Int.natCast_add]
                refine ⟨_, ?_, ⟨_, hL.alloc _⟩, i + 2, pre ++ [10], rfl, rfl, by omega, by omega, by simp; omega, ?_, rfl⟩
                · omega
                · rw [ht, textB_cons, if_neg c34, if_neg c32, if_pos c92]
                  simp only [hed, Option.map_map]
                  congr 1
                  funext q
                  simp
                  omega
              · have hed : escB d = none := by unfold escB; rw [if_neg d0, if_neg d1, if_neg d2]
                have d2n : ¬ (d.toNat : Int) = 110 := by omega
                simp [L_ref03_str_1, r0, r1, r6, r7, hlen, hlt', hq1, hq2, c34', c32', c92', hw, hge', hq3, hq4, d0n, d1n, d2n, -Int.natCast_add]
                refine bad ?_
                rw [ht, textB_cons, if_neg c34, if_neg c32, if_pos c92]
                simp only [hed]
                rfl
            · have c92' : ¬ (c.toNat : Int) = 92 := by omega
              have hys := Vw.elems hy2
              have hadd := abin_strAdd (s := mkS pre) (t := mkS [c]) (by simp; omega)
              simp only [bl_mkS] at hadd
              have hb1 : ((b.map avByte).drop (i : Int).toNat).take (((i + 1 : Nat) : Int).toNat - (i : Int).toNat) = [avByte c] := by
                rw [Int.toNat_natCast, Int.toNat_natCast, show i + 1 - i = 1 from by omega, ← List.map_drop, hd]; rfl
              rw [hb1] at hys
              have hb2 : bytesOf [avByte c] = some [c] := bytesOf_bytes [c]
              simp [L_ref03_str_1, r0, r1, r6, r7, hlen, hlt', hq1, hq2, c34', c32', c92', hw, hy1, hys, hb2, hadd, -Int.natCast_add]
              refine ⟨_, ?_, ⟨_, hL⟩, i + 1, pre ++ [c], rfl, rfl, by omega, by omega, by simp; omega, ?_, rfl⟩
              · omega
              · rw [ht, textB_cons, if_neg c34, if_neg c32, if_neg c92]
                simp only [Option.map_map]
                congr 1
                funext q
                simp
                omega
      · have hlt' : ¬ (i : Int) < b.length := by omega
        simp [L_ref03_str_1, K_ref03_str_1, r0, r7, hlen, hlt']
        refine bad ?_
        rw [ht, List.drop_of_length_le (by omega)]; rfl
  obtain ⟨r, e, hr⟩ := key
  rw [hR] at hr
  rw [e, hr]
end
end Go.Proofs.Eng
/- The reference of chapter 3, run by the engine: signs. -/
set_option linter.unusedVariables false
set_option linter.unusedSimpArgs false
set_option maxRecDepth 100000
namespace Go.Proofs.Eng
open Go
section
variable {Γ : Sums} {A : Tab} {N : Nat → Nat}
def twoL : List (List UInt8) := [[61, 62], [45, 62], [61, 61], [46, 46], [43, 46], [45, 46], [42, 46], [47, 46], [60, 46]]
def oneL : List Nat := [40, 41, 123, 125, 91, 93, 44, 59, 58, 46, 61, 124, 43, 45, 42, 47, 60, 94]
/-- How many bytes the sign at the head has. -/
def signN (c : UInt8) (s : List UInt8) : Nat := if s.take 2 ∈ twoL then 2 else if c.toNat ∈ oneL then 1 else 0
theorem signN_two {c : UInt8} {s : List UInt8} (h : s.take 2 ∈ twoL) : signN c s = 2 := by simp [signN, h]
theorem signN_one {c : UInt8} {s : List UInt8} (h : ¬ s.take 2 ∈ twoL) (h2 : c.toNat ∈ oneL) : signN c s = 1 := by simp [signN, h, h2]
theorem signN_none {c : UInt8} {s : List UInt8} (h : ¬ s.take 2 ∈ twoL) (h2 : ¬ c.toNat ∈ oneL) : signN c s = 0 := by simp [signN, h, h2]
theorem two_len {x : List UInt8} (h : x ∈ twoL) : x.length = 2 := by
  have : ∀ x ∈ twoL, x.length = 2 := by decide
  exact this x h

set_option maxHeartbeats 4000000 in
theorem ref03_sign_call (h : Ref03S Γ A N) {x : AV} {b : List UInt8} {c : UInt8} (H : Hp) (hx : VBytes H x b) (hl : b.length < 2 ^ 36) (a : Nat) (ha : a < b.length) (hc : b[a] = c) :
    (lim Γ A).call (f_ref03_sign N) [x, avInt .i64 a] H = some (avInt .i64 (signN c (b.drop a)), none) := by
  apply h.sign.call (by rfl)
  have hlen := Vw.len hx
  rw [List.length_map] at hlen
  have hx0 : VBytes { l := H.l, d := none } x b := hx.dd none
  obtain ⟨p, hp1, hp2⟩ := VBytes.at' hx0 (k := .i64) (i := (a : Int)) (by omega) (by simpa using ha)
  simp only [Int.toNat_natCast, hc] at hp1 hp2
  have hw : IntKind.wrap .i64 ((a : Int) + 2) = ((a + 2 : Nat) : Int) := by rw [wrap64 (by omega) (by omega)]; omega
  by_cases h2 : a + 2 ≤ b.length
  · have h2' : ((a + 2 : Nat) : Int) ≤ b.length := by omega
    obtain ⟨y, hy1, hy2⟩ := Vw.cut hx0 (k := .i64) (k' := .i64) (i := (a : Int)) (j := ((a + 2 : Nat) : Int)) (by omega) (by omega) (by rw [List.length_map]; omega)
    rw [Int.toNat_natCast, Int.toNat_natCast, show a + 2 - a = 2 from by omega, ← List.map_drop, ← List.map_take] at hy2
    have hys := VBytes.str hy2
    by_cases hm : (b.drop a).take 2 ∈ twoL
    · rw [signN_two hm]
      have hm2 := hm
      generalize (b.drop a).take 2 = t at *
      simp only [twoL, List.mem_cons, List.not_mem_nil, or_false] at hm2
      rcases hm2 with rfl | rfl | rfl | rfl | rfl | rfl | rfl | rfl | rfl <;> simp [C_ref03_sign, hlen, hw, h2', hy1, hys, -Int.natCast_add]
    · have hm2 := hm
      simp only [twoL, List.mem_cons, List.not_mem_nil, or_false, not_or] at hm2
      obtain ⟨m0, m1, m2, m3, m4, m5, m6, m7, m8⟩ := hm2
      generalize hs2 : (b.drop a).take 2 = t at *
      rw [← hs2] at hm
      by_cases q0 : (c.toNat : Int) = 40
      · rw [signN_one hm (by rw [show c.toNat = 40 from by omega]; decide)]
        simp [C_ref03_sign, hlen, hp1, hp2, hw, h2', hy1, hys, m0, m1, m2, m3, m4, m5, m6, m7, m8, q0, -Int.natCast_add]
      by_cases q1 : (c.toNat : Int) = 41
      · rw [signN_one hm (by rw [show c.toNat = 41 from by omega]; decide)]
        simp [C_ref03_sign, hlen, hp1, hp2, hw, h2', hy1, hys, m0, m1, m2, m3, m4, m5, m6, m7, m8, q0, q1, -Int.natCast_add]
      by_cases q2 : (c.toNat : Int) = 123
      · rw [signN_one hm (by rw [show c.toNat = 123 from by omega]; decide)]
        simp [C_ref03_sign, hlen, hp1, hp2, hw, h2', hy1, hys, m0, m1, m2, m3, m4, m5, m6, m7, m8, q0, q1, q2, -Int.natCast_add]
      by_cases q3 : (c.toNat : Int) = 125
      · rw [signN_one hm (by rw [show c.toNat = 125 from by omega]; decide)]
        simp [C_ref03_sign, hlen, hp1, hp2, hw, h2', hy1, hys, m0, m1, m2, m3, m4, m5, m6, m7, m8, q0, q1, q2, q3, -Int.natCast_add]
      by_cases q4 : (c.toNat : Int) = 91
      · rw [signN_one hm (by rw [show c.toNat = 91 from by omega]; decide)]
        simp [C_ref03_sign, hlen, hp1, hp2, hw, h2', hy1, hys, m0, m1, m2, m3, m4, m5, m6, m7, m8, q0, q1, q2, q3, q4, -Int.natCast_add]
      by_cases q5 : (c.toNat : Int) = 93
      · rw [signN_one hm (by rw [show c.toNat = 93 from by omega]; decide)]
        simp [C_ref03_sign, hlen, hp1, hp2, hw, h2', hy1, hys, m0, m1, m2, m3, m4, m5, m6, m7, m8, q0, q1, q2, q3, q4, q5, -Int.natCast_add]
      by_cases q6 : (c.toNat : Int) = 44
      · rw [signN_one hm (by rw [show c.toNat = 44 from by omega]; decide)]
        simp [C_ref03_sign, hlen, hp1, hp2, hw, h2', hy1, hys, m0, m1, m2, m3, m4, m5, m6, m7, m8, q0, q1, q2, q3, q4, q5, q6, -Int.natCast_add]
      by_cases q7 : (c.toNat : Int) = 59
      · rw [signN_one hm (by rw [show c.toNat = 59 from by omega]; decide)]
        simp [C_ref03_sign, hlen, hp1, hp2, hw, h2', hy1, hys, m0, m1, m2, m3, m4, m5, m6, m7, m8, q0, q1, q2, q3, q4, q5, q6, q7, -Int.natCast_add]
      by_cases q8 : (c.toNat : Int) = 58
      · rw [signN_one hm (by rw [show c.toNat = 58 from by omega]; decide)]
        simp [C_ref03_sign, hlen, hp1, hp2, hw, h2', hy1, hys, m0, m1, m2, m3, m4, m5, m6, m7, m8, q0, q1, q2, q3, q4, q5, q6, q7, q8, -Int.natCast_add]
      by_cases q9 : (c.toNat : Int) = 46
      · rw [signN_one hm (by rw [show c.toNat = 46 from by omega]; decide)]
        simp [C_ref03_sign, hlen, hp1, hp2, hw, h2', hy1, hys, m0, m1, m2, m3, m4, m5, m6, m7, m8, q0, q1, q2, q3, q4, q5, q6, q7, q8, q9, -Int.natCast_add]
      by_cases q10 : (c.toNat : Int) = 61
      · rw [signN_one hm (by rw [show c.toNat = 61 from by omega]; decide)]
        simp [C_ref03_sign, hlen, hp1, hp2, hw, h2', hy1, hys, m0, m1, m2, m3, m4, m5, m6, m7, m8, q0, q1, q2, q3, q4, q5, q6, q7, q8, q9, q10, -Int.natCast_add]
      by_cases q11 : (c.toNat : Int) = 124
      · rw [signN_one hm (by rw [show c.toNat = 124 from by omega]; decide)]
        simp [C_ref03_sign, hlen, hp1, hp2, hw, h2', hy1, hys, m0, m1, m2, m3, m4, m5, m6, m7, m8, q0, q1, q2, q3, q4, q5, q6, q7, q8, q9, q10, q11, -Int.natCast_add]
      by_cases q12 : (c.toNat : Int) = 43
      · rw [signN_one hm (by rw [show c.toNat = 43 from by omega]; decide)]
        simp [C_ref03_sign, hlen, hp1, hp2, hw, h2', hy1, hys, m0, m1, m2, m3, m4, m5, m6, m7, m8, q0, q1, q2, q3, q4, q5, q6, q7, q8, q9, q10, q11, q12, -Int.natCast_add]
      by_cases q13 : (c.toNat : Int) = 45
      · rw [signN_one hm (by rw [show c.toNat = 45 from by omega]; decide)]
        simp [C_ref03_sign, hlen, hp1, hp2, hw, h2', hy1, hys, m0, m1, m2, m3, m4, m5, m6, m7, m8, q0, q1, q2, q3, q4, q5, q6, q7, q8, q9, q10, q11, q12, q13, -Int.natCast_add]
      by_cases q14 : (c.toNat : Int) = 42
      · rw [signN_one hm (by rw [show c.toNat = 42 from by omega]; decide)]
        simp [C_ref03_sign, hlen, hp1, hp2, hw, h2', hy1, hys, m0, m1, m2, m3, m4, m5, m6, m7, m8, q0, q1, q2, q3, q4, q5, q6, q7, q8, q9, q10, q11, q12, q13, q14, -Int.natCast_add]
      by_cases q15 : (c.toNat : Int) = 47
      · rw [signN_one hm (by rw [show c.toNat = 47 from by omega]; decide)]
        simp [C_ref03_sign, hlen, hp1, hp2, hw, h2', hy1, hys, m0, m1, m2, m3, m4, m5, m6, m7, m8, q0, q1, q2, q3, q4, q5, q6, q7, q8, q9, q10, q11, q12, q13, q14, q15, -Int.natCast_add]
      by_cases q16 : (c.toNat : Int) = 60
      · rw [signN_one hm (by rw [show c.toNat = 60 from by omega]; decide)]
        simp [C_ref03_sign, hlen, hp1, hp2, hw, h2', hy1, hys, m0, m1, m2, m3, m4, m5, m6, m7, m8, q0, q1, q2, q3, q4, q5, q6, q7, q8, q9, q10, q11, q12, q13, q14, q15, q16, -Int.natCast_add]
      by_cases q17 : (c.toNat : Int) = 94
      · rw [signN_one hm (by rw [show c.toNat = 94 from by omega]; decide)]
        simp [C_ref03_sign, hlen, hp1, hp2, hw, h2', hy1, hys, m0, m1, m2, m3, m4, m5, m6, m7, m8, q0, q1, q2, q3, q4, q5, q6, q7, q8, q9, q10, q11, q12, q13, q14, q15, q16, q17, -Int.natCast_add]
      rw [signN_none hm (by simp only [oneL, List.mem_cons, List.not_mem_nil, or_false, not_or]; refine ⟨?_, ?_, ?_, ?_, ?_, ?_, ?_, ?_, ?_, ?_, ?_, ?_, ?_, ?_, ?_, ?_, ?_, ?_⟩ <;> omega)]
      simp [C_ref03_sign, hlen, hp1, hp2, hw, h2', hy1, hys, m0, m1, m2, m3, m4, m5, m6, m7, m8, q0, q1, q2, q3, q4, q5, q6, q7, q8, q9, q10, q11, q12, q13, q14, q15, q16, q17, -Int.natCast_add]
  · have h2' : ¬ ((a + 2 : Nat) : Int) ≤ b.length := by omega
    have hm : ¬ (b.drop a).take 2 ∈ twoL := by
      intro hm
      have := two_len hm
      rw [List.length_take, List.length_drop] at this
      omega
    by_cases q0 : (c.toNat : Int) = 40
    · rw [signN_one hm (by rw [show c.toNat = 40 from by omega]; decide)]
      simp [C_ref03_sign, hlen, hp1, hp2, hw, h2', q0, -Int.natCast_add]
    by_cases q1 : (c.toNat : Int) = 41
    · rw [signN_one hm (by rw [show c.toNat = 41 from by omega]; decide)]
      simp [C_ref03_sign, hlen, hp1, hp2, hw, h2', q0, q1, -Int.natCast_add]
    by_cases q2 : (c.toNat : Int) = 123
    · rw [signN_one hm (by rw [show c.toNat = 123 from by omega]; decide)]
      simp [C_ref03_sign, hlen, hp1, hp2, hw, h2', q0, q1, q2, -Int.natCast_add]
    by_cases q3 : (c.toNat : Int) = 125
    · rw [signN_one hm (by rw [show c.toNat = 125 from by omega]; decide)]
      simp [C_ref03_sign, hlen, hp1, hp2, hw, h2', q0, q1, q2, q3, -Int.natCast_add]
    by_cases q4 : (c.toNat : Int) = 91
    · rw [signN_one hm (by rw [show c.toNat = 91 from by omega]; decide)]
      simp [C_ref03_sign, hlen, hp1, hp2, hw, h2', q0, q1, q2, q3, q4, -Int.natCast_add]
    by_cases q5 : (c.toNat : Int) = 93
    · rw [signN_one hm (by rw [show c.toNat = 93 from by omega]; decide)]
      simp [C_ref03_sign, hlen, hp1, hp2, hw, h2', q0, q1, q2, q3, q4, q5, -Int.natCast_add]
    by_cases q6 : (c.toNat : Int) = 44
    · rw [signN_one hm (by rw [show c.toNat = 44 from by omega]; decide)]
      simp [C_ref03_sign, hlen, hp1, hp2, hw, h2', q0, q1, q2, q3, q4, q5, q6, -Int.natCast_add]
    by_cases q7 : (c.toNat : Int) = 59
    · rw [signN_one hm (by rw [show c.toNat = 59 from by omega]; decide)]
      simp [C_ref03_sign, hlen, hp1, hp2, hw, h2', q0, q1, q2, q3, q4, q5, q6, q7, -Int.natCast_add]
    by_cases q8 : (c.toNat : Int) = 58
    · rw [signN_one hm (by rw [show c.toNat = 58 from by omega]; decide)]
      simp [C_ref03_sign, hlen, hp1, hp2, hw, h2', q0, q1, q2, q3, q4, q5, q6, q7, q8, -Int.natCast_add]
    by_cases q9 : (c.toNat : Int) = 46
    · rw [signN_one hm (by rw [show c.toNat = 46 from by omega]; decide)]
      simp [C_ref03_sign, hlen, hp1, hp2, hw, h2', q0, q1, q2, q3, q4, q5, q6, q7, q8, q9, -Int.natCast_add]
    by_cases q10 : (c.toNat : Int) = 61
    · rw [signN_one hm (by rw [show c.toNat = 61 from by omega]; decide)]
      simp [C_ref03_sign, hlen, hp1, hp2, hw, h2', q0, q1, q2, q3, q4, q5, q6, q7, q8, q9, q10, -Int.natCast_add]
    by_cases q11 : (c.toNat : Int) = 124
    · rw [signN_one hm (by rw [show c.toNat = 124 from by omega]; decide)]
      simp [C_ref03_sign, hlen, hp1, hp2, hw, h2', q0, q1, q2, q3, q4, q5, q6, q7, q8, q9, q10, q11, -Int.natCast_add]
    by_cases q12 : (c.toNat : Int) = 43
    · rw [signN_one hm (by rw [show c.toNat = 43 from by omega]; decide)]
      simp [C_ref03_sign, hlen, hp1, hp2, hw, h2', q0, q1, q2, q3, q4, q5, q6, q7, q8, q9, q10, q11, q12, -Int.natCast_add]
    by_cases q13 : (c.toNat : Int) = 45
    · rw [signN_one hm (by rw [show c.toNat = 45 from by omega]; decide)]
      simp [C_ref03_sign, hlen, hp1, hp2, hw, h2', q0, q1, q2, q3, q4, q5, q6, q7, q8, q9, q10, q11, q12, q13, -Int.natCast_add]
    by_cases q14 : (c.toNat : Int) = 42
    · rw [signN_one hm (by rw [show c.toNat = 42 from by omega]; decide)]
      simp [C_ref03_sign, hlen, hp1, hp2, hw, h2', q0, q1, q2, q3, q4, q5, q6, q7, q8, q9, q10, q11, q12, q13, q14, -Int.natCast_add]
    by_cases q15 : (c.toNat : Int) = 47
    · rw [signN_one hm (by rw [show c.toNat = 47 from by omega]; decide)]
      simp [C_ref03_sign, hlen, hp1, hp2, hw, h2', q0, q1, q2, q3, q4, q5, q6, q7, q8, q9, q10, q11, q12, q13, q14, q15, -Int.natCast_add]
    by_cases q16 : (c.toNat : Int) = 60
    · rw [signN_one hm (by rw [show c.toNat = 60 from by omega]; decide)]
      simp [C_ref03_sign, hlen, hp1, hp2, hw, h2', q0, q1, q2, q3, q4, q5, q6, q7, q8, q9, q10, q11, q12, q13, q14, q15, q16, -Int.natCast_add]
    by_cases q17 : (c.toNat : Int) = 94
    · rw [signN_one hm (by rw [show c.toNat = 94 from by omega]; decide)]
      simp [C_ref03_sign, hlen, hp1, hp2, hw, h2', q0, q1, q2, q3, q4, q5, q6, q7, q8, q9, q10, q11, q12, q13, q14, q15, q16, q17, -Int.natCast_add]
    rw [signN_none hm (by simp only [oneL, List.mem_cons, List.not_mem_nil, or_false, not_or]; refine ⟨?_, ?_, ?_, ?_, ?_, ?_, ?_, ?_, ?_, ?_, ?_, ?_, ?_, ?_, ?_, ?_, ?_, ?_⟩ <;> omega)]
    simp [C_ref03_sign, hlen, hp1, hp2, hw, h2', q0, q1, q2, q3, q4, q5, q6, q7, q8, q9, q10, q11, q12, q13, q14, q15, q16, q17, -Int.natCast_add]
end
end Go.Proofs.Eng
/- The reference of chapter 3, run by the engine: words. -/
set_option linter.unusedVariables false
set_option linter.unusedSimpArgs false
set_option maxRecDepth 100000
namespace Go.Proofs.Eng
open Go
section
variable {Γ : Sums} {A : Tab} {N : Nat → Nat}
def wordsC : List UInt8 := [32, 102, 117, 110, 32, 108, 101, 116, 32, 114, 101, 99, 32, 105, 110, 32, 105, 102, 32, 116, 104, 101, 110, 32, 101, 108, 115, 101, 32, 99, 97, 115, 101, 32, 111, 102, 32, 101, 110, 100, 32, 116, 114, 117, 101, 32, 102, 97, 108, 115, 101, 32, 105, 110, 116, 32, 98, 111, 111, 108, 32, 115, 116, 114, 32, 102, 108, 111, 97, 116, 32, 100, 121, 110, 32, 97, 110, 121, 32, 110, 111, 110, 101, 32, 116, 121, 112, 101, 32]
theorem wordsC_eq : (32 :: 102 :: 117 :: 110 :: 32 :: 108 :: 101 :: 116 :: 32 :: 114 :: 101 :: 99 :: 32 :: 105 :: 110 :: 32 :: 105 :: 102 :: 32 :: 116 :: 104 :: 101 :: 110 :: 32 :: 101 :: 108 :: 115 :: 101 :: 32 :: 99 :: 97 :: 115 :: 101 :: 32 :: 111 :: 102 :: 32 :: 101 :: 110 :: 100 :: 32 :: 116 :: 114 :: 117 :: 101 :: 32 :: 102 :: 97 :: 108 :: 115 :: 101 :: 32 :: 105 :: 110 :: 116 :: 32 :: 98 :: 111 :: 111 :: 108 :: 32 :: 115 :: 116 :: 114 :: 32 :: 102 :: 108 :: 111 :: 97 :: 116 :: 32 :: 100 :: 121 :: 110 :: 32 :: 97 :: 110 :: 121 :: 32 :: 110 :: 111 :: 110 :: 101 :: 32 :: 116 :: 121 :: 112 :: 101 :: 32 :: [] : List UInt8) = wordsC := by kernel_rfl
def az (c : UInt8) : Bool := decide (97 ≤ c.toNat) && decide (c.toNat ≤ 122)
theorem words_fwd (i n : Nat) (hi : i < 90) (hn : n < 90) (h1 : ((wordsC.drop (i + 1)).take n).all az = true) (h2 : (wordsC.drop (i + 1)).take n ≠ []) (h3 : (wordsC.drop i).take (n + 2) = 32 :: ((wordsC.drop (i + 1)).take n ++ [32])) : (wordsC.drop (i + 1)).take n ∈ wordsL := by
  have : (List.range 90).all (fun i => (List.range 90).all fun n => let s := (wordsC.drop (i + 1)).take n; !(s.all az && !s.isEmpty && (wordsC.drop i).take (n + 2) == 32 :: (s ++ [32])) || wordsL.contains s) = true := by decide +kernel
  rw [List.all_eq_true] at this
  have := this i (by simp; exact hi)
  rw [List.all_eq_true] at this
  have := this n (by simp; exact hn)
  have e : ((wordsC.drop (i + 1)).take n).isEmpty = false := by simpa using h2
  simp only [h1, e, h3, Bool.not_false, Bool.and_self, beq_self_eq_true, Bool.not_true, Bool.false_or, List.contains_iff_mem] at this
  exact this
theorem words_bwd {s : List UInt8} (h : s ∈ wordsL) : s.all az = true ∧ s ≠ [] ∧ ∃ i, i + s.length + 2 ≤ 89 ∧ (wordsC.drop i).take (s.length + 2) = 32 :: (s ++ [32]) := by
  have : ∀ s ∈ wordsL, s.all az = true ∧ s ≠ [] ∧ ((List.range 90).any fun i => decide (i + s.length + 2 ≤ 89) && (wordsC.drop i).take (s.length + 2) == 32 :: (s ++ [32])) = true := by decide +kernel
  obtain ⟨h1, h2, h3⟩ := this s h
  refine ⟨h1, h2, ?_⟩
  rw [List.any_eq_true] at h3
  obtain ⟨i, _, h4⟩ := h3
  rw [Bool.and_eq_true, decide_eq_true_eq, beq_iff_eq] at h4
  exact ⟨i, h4⟩
theorem words_iff {s : List UInt8} (h1 : s.all az = true) (h2 : s ≠ []) : (∃ i, i + s.length + 2 ≤ 89 ∧ (wordsC.drop i).take (s.length + 2) = 32 :: (s ++ [32])) ↔ s ∈ wordsL := by
  constructor
  · rintro ⟨i, hi, h3⟩
    have e : (wordsC.drop (i + 1)).take s.length = s := by
      have h4 := congrArg (fun l => (l.drop 1).take s.length) h3
      simpa [List.drop_take, List.take_take] using h4
    have := words_fwd i s.length (by omega) (by omega) (by rw [e]; exact h1) (by rw [e]; exact h2) (by rw [e]; exact h3)
    rwa [e] at this
  · intro h
    exact (words_bwd h).2.2

theorem ref03_IsWord_call (h : Ref03S Γ A N) (s : List UInt8) (hl : s.length < 2 ^ 36) (H : Hp) : (lim Γ A).call (f_ref03_IsWord N) [avStr s] H = some (avBool (isWordB s), none) := by
  apply h.isWord.call (by rfl)
  by_cases hne : s = []
  · subst hne
    simp [C_ref03_IsWord, isWordB]
    decide
  · have hne' : ¬ (s = []) := hne
    simp [C_ref03_IsWord, hne, -Int.natCast_add]
    refine wp_round (fun k ρ H' => H' = { l := H.l, d := none } ∧ ∃ i : Nat, ρ 0 = avStr s ∧ ρ 3 = avInt .i64 i ∧ i ≤ s.length ∧ (s.take i).all az = true ∧ k = s.length - i) (n := s.length) ⟨rfl, 0, rfl, rfl, by omega, by simp, rfl⟩ ?_
    rintro k ρ H' ⟨rfl, i, r0, r3, hi, ha, rfl⟩
    by_cases hlt : i < s.length
    · have hlt' : (i : Int) < s.length := by omega
      have hx := asidx_nat (k := .i64) hlt
      have hno : az s[i] = false → isWordB s = false := by
        intro hz
        unfold isWordB
        rw [decide_eq_false_iff_not]
        intro hm
        have := (words_bwd hm).1
        rw [List.all_eq_true] at this
        rw [this _ (List.getElem_mem hlt)] at hz
        cases hz
      have hgo : az s[i] = true → (s.take (i + 1)).all az = true := by
        intro hz
        rw [List.take_succ_eq_append_getElem hlt, List.all_append, ha]; simp [hz]
      generalize s[i] = c at *
      by_cases h97 : c.toNat < 97
      · have h97' : (c.toNat : Int) < 97 := by omega
        have hz := hno (by simp [az]; omega)
        simp [L_ref03_IsWord_1, r0, r3, hlt', hx, h97', hz]
      · have h97' : ¬ (c.toNat : Int) < 97 := by omega
        by_cases h122 : 122 < c.toNat
        · have h122' : (122 : Int) < c.toNat := by omega
          have hz := hno (by simp [az]; omega)
          simp [L_ref03_IsWord_1, r0, r3, hlt', hx, h97', h122', hz]
        · have h122' : ¬ (122 : Int) < c.toNat := by omega
          have hw : IntKind.wrap .i64 ((i : Int) + 1) = ((i + 1 : Nat) : Int) := by rw [wrap64 (by omega) (by omega)]; omega
          have hg := hgo (by simp [az]; omega)
          simp [L_ref03_IsWord_1, r0, r3, hlt', hx, h97', h122', hw, -Int.natCast_add]
          exact ⟨s.length - (i + 1), by omega, i + 1, rfl, by omega, List.all_eq_true.1 hg, rfl⟩
    · have hlt' : ¬ (i : Int) < s.length := by omega
      rw [List.take_of_length_le (by omega)] at ha
      have hiff := words_iff ha hne
      simp [L_ref03_IsWord_1, K_ref03_IsWord_1, r0, r3, hlt', -Int.natCast_add]
      refine wp_round (fun k ρ H' => H' = { l := H.l, d := none } ∧ ∃ j : Nat, ρ 0 = avStr s ∧ ρ 4 = avInt .i64 j ∧ j ≤ 90 ∧ (∀ i < j, ¬ (i + s.length + 2 ≤ 89 ∧ (wordsC.drop i).take (s.length + 2) = 32 :: (s ++ [32]))) ∧ k = 90 - j) (n := 90) ⟨rfl, 0, ?_, ?_, by omega, by omega, rfl⟩ ?_
      · simp [r0]
      · simp
      rintro k ρ H' ⟨rfl, j, r0, r4, hj, hn, rfl⟩
      have hw1 : IntKind.wrap .i64 ((j : Int) + (s.length : Int)) = ((j + s.length : Nat) : Int) := by rw [wrap64 (by omega) (by omega)]; omega
      have hw2 : IntKind.wrap .i64 (((j + s.length : Nat) : Int) + 2) = ((j + s.length + 2 : Nat) : Int) := by rw [wrap64 (by omega) (by omega)]; omega
      by_cases hle : j + s.length + 2 ≤ 89
      · have hle' : ((j + s.length + 2 : Nat) : Int) ≤ 89 := by omega
        have hcut : aslstr (avStr wordsC) (some (avInt .i64 (j : Int))) (some (avInt .i64 ((j + s.length + 2 : Nat) : Int))) = some (avStr ((wordsC.drop j).take (s.length + 2))) := by
          rw [aslstr_cut (by omega) (by omega) (by show _ ≤ 89; omega)]
          simp only [Int.toNat_natCast]
          rw [show j + s.length + 2 - j = s.length + 2 from by omega]
        have hadd1 := abin_strAdd (s := mkS [32]) (t := mkS s) (by simp; omega)
        have hadd2 := abin_strAdd (s := mkS ([32] ++ s)) (t := mkS [32]) (by simp; omega)
        simp only [bl_mkS, List.cons_append, List.nil_append] at hadd1 hadd2
        by_cases hm : (wordsC.drop j).take (s.length + 2) = 32 :: (s ++ [32])
        · have hmem : isWordB s = true := by simpa [isWordB] using hiff.1 ⟨j, hle, hm⟩
          rw [hm] at hcut
          simp [L_ref03_IsWord_2, wordsC_eq, r0, r4, hw1, hw2, hle', hcut, hadd1, hadd2, hmem, -Int.natCast_add]
        · have hw3 : IntKind.wrap .i64 ((j : Int) + 1) = ((j + 1 : Nat) : Int) := by rw [wrap64 (by omega) (by omega)]; omega
          generalize hgt : (wordsC.drop j).take (s.length + 2) = t at *
          simp [L_ref03_IsWord_2, wordsC_eq, r0, r4, hw1, hw2, hw3, hle', hcut, hadd1, hadd2, hm, -Int.natCast_add]
          refine ⟨90 - (j + 1), by omega, j + 1, rfl, by omega, ?_, rfl⟩
          intro i hi h1 h2
          have h1 : i + s.length + 2 ≤ 89 := by omega
          rcases Nat.lt_or_ge i j with h3 | h3
          · exact hn i h3 ⟨h1, h2⟩
          · have : i = j := by omega
            subst this
            rw [hgt] at h2
            exact hm h2
      · have hle' : ¬ ((j + s.length + 2 : Nat) : Int) ≤ 89 := by omega
        have hmem : isWordB s = false := by
          unfold isWordB
          rw [decide_eq_false_iff_not, ← hiff]
          rintro ⟨i, h1, h2⟩
          rcases Nat.lt_or_ge i j with h3 | h3
          · exact hn i h3 ⟨h1, h2⟩
          · omega
        simp [L_ref03_IsWord_2, K_ref03_IsWord_2, r0, r4, hw1, hw2, hle', hmem, -Int.natCast_add]
end
end Go.Proofs.Eng
/- The reference of chapter 4, run by the engine: tags and names. -/
set_option linter.unusedVariables false
set_option linter.unusedSimpArgs false
set_option maxRecDepth 100000
namespace Go.Proofs.Eng
open Go
section
variable {Γ : Sums} {A : Tab} {N : Nat → Nat}
/-- A name, or a word. -/
def tagB (s : List UInt8) : Bool := !s.isEmpty && (s.head?.map isLow).getD false && decide (runB isInName s = s.length)
theorem nameB_tag (s : List UInt8) : isNameB s = (tagB s && !isWordB s) := rfl
structure Ref04N (Γ : Sums) (A : Tab) (N : Nat → Nat) : Prop where
  tag : Has Γ A (f_ref04_Tag N) (C_ref04_Tag N)
  name : Has Γ A (f_ref04_Name N) (C_ref04_Name N)
theorem ref04_Tag_call (h : Ref04N Γ A N) (s : List UInt8) (hl : s.length < 2 ^ 40) (H : Hp) : (lim Γ A).call (f_ref04_Tag N) [avStr s] H = some (avBool (tagB s), none) := by
  apply h.tag.call (by rfl)
  simp [C_ref04_Tag, -Int.natCast_add]
  refine wp_round (fun k ρ H' => H' = { l := H.l, d := none } ∧ ∃ i : Nat, ρ 0 = avStr s ∧ ρ 3 = avInt .i64 i ∧ i ≤ s.length ∧ (s.take i).all isInName = true ∧ (0 < i → (s.head?.map isLow).getD false = true) ∧ k = s.length - i) (n := s.length) ⟨rfl, 0, rfl, rfl, by omega, by simp, by omega, rfl⟩ ?_
  rintro k ρ H' ⟨rfl, i, r0, r3, hi, ha, hp, rfl⟩
  have hrd := runB_drop isInName s i ha hi
  by_cases hlt : i < s.length
  · have hlt' : (i : Int) < s.length := by omega
    have hx := asidx_nat (k := .i64) hlt
    have hw : IntKind.wrap .i64 ((i : Int) + 1) = ((i + 1 : Nat) : Int) := by rw [wrap64 (by omega) (by omega)]; omega
    have hd : s.drop i = s[i] :: s.drop (i + 1) := List.drop_eq_getElem_cons hlt
    have hhd : i = 0 → (s.head?.map isLow).getD false = isLow s[i] := by
      rintro rfl
      simp [List.head?_eq_getElem?, List.getElem?_eq_getElem hlt]
    have stopN : isInName s[i] = false → tagB s = false := by
      intro hc
      unfold tagB
      have : runB isInName s = i := by rw [hrd, hd, runB_stop hc]; omega
      simp [this]; omega
    have stop0 : i = 0 → isLow s[i] = false → tagB s = false := by
      intro h0 hc
      unfold tagB
      rw [hhd h0, hc]; simp
    have go : isInName s[i] = true → (s.take (i + 1)).all isInName = true := by
      intro hz
      rw [List.take_succ_eq_append_getElem hlt, List.all_append, ha]; simp [hz]
    have gohd : (i = 0 → isLow s[i] = true) → (s.head?.map isLow).getD false = true := by
      intro hz
      by_cases h0 : i = 0
      · rw [hhd h0, hz h0]
      · exact hp (by omega)
    generalize s[i] = c at *
    have hlow : isLow c = (decide (97 ≤ c.toNat) && decide (c.toNat ≤ 122) || decide (c.toNat = 95)) := rfl
    have hnm : isInName c = (isLow c || (decide (48 ≤ c.toNat) && decide (c.toNat ≤ 57))) := rfl
    have step : isLow c = true ∨ (i ≠ 0 ∧ 48 ≤ c.toNat ∧ c.toNat ≤ 57) → isInName c = true ∧ (i = 0 → isLow c = true) := by
      rintro (h1 | ⟨h1, h2, h3⟩)
      · exact ⟨by rw [hnm, h1]; rfl, fun _ => h1⟩
      · exact ⟨by rw [hnm]; simp [h2, h3], fun h => absurd h h1⟩
    have fin : isLow c = true ∨ (i ≠ 0 ∧ 48 ≤ c.toNat ∧ c.toNat ≤ 57) → ∃ m, m < s.length - i ∧ ∃ i', avInt .i64 ((i + 1 : Nat) : Int) = avInt .i64 (i' : Nat) ∧ i' ≤ s.length ∧ (∀ x ∈ s.take i', isInName x = true) ∧ (0 < i' → (s.head?.map isLow).getD false = true) ∧ m = s.length - i' := by
      intro h1
      obtain ⟨h2, h3⟩ := step h1
      refine ⟨s.length - (i + 1), by omega, i + 1, rfl, by omega, List.all_eq_true.1 (go h2), fun _ => gohd h3, rfl⟩
    by_cases hlw : isLow c = true
    · have hlw2 := hlw
      rw [hlow] at hlw2
      by_cases h95 : c.toNat = 95
      · have a1 : ((c.toNat : Nat) : Int) = 95 := by omega
        simp [L_ref04_Tag_1, r0, r3, hlt', hx, a1, h95, hw, -Int.natCast_add]
        simpa using fin (.inl hlw)
      · have b1 : 97 ≤ c.toNat ∧ c.toNat ≤ 122 := by simpa [h95] using hlw2
        have a1 : (97 : Int) ≤ c.toNat := by omega
        have a2 : (c.toNat : Int) ≤ 122 := by omega
        simp [L_ref04_Tag_1, r0, r3, hlt', hx, a1, a2, b1.1, b1.2, hw, -Int.natCast_add]
        simpa using fin (.inl hlw)
    · have hlw' : isLow c = false := by simpa using hlw
      have hlw2 := hlw'
      rw [hlow] at hlw2
      have h95 : ¬ c.toNat = 95 := by intro h; simp [h] at hlw2
      have hno : ¬ (97 ≤ c.toNat ∧ c.toNat ≤ 122) := by rintro ⟨h1, h2⟩; simp [h1, h2] at hlw2
      have a1 : ¬ ((c.toNat : Nat) : Int) = 95 := by omega
      have key : ∀ (P : Prop), (97 ≤ c.toNat → ¬ c.toNat ≤ 122 → P) → (¬ 97 ≤ c.toNat → P) → P := fun P h1 h2 => by
        by_cases h : 97 ≤ c.toNat
        · exact h1 h fun h' => hno ⟨h, h'⟩
        · exact h2 h
      by_cases h0 : i = 0
      · have ht := stop0 h0 hlw'
        subst h0
        have hx0 : asidx (avStr s) (.lit (.int .i64 0)) = some (avByte c) := hx
        refine key _ (fun b1 b2 => ?_) (fun b1 => ?_)
        · have b1' : (97 : Int) ≤ c.toNat := by omega
          have b2' : ¬ (c.toNat : Int) ≤ 122 := by omega
          simp [L_ref04_Tag_1, r0, r3, hlt, hlt', hx0, a1, h95, b1, b2, b1', b2', ht]
        · have b1' : ¬ (97 : Int) ≤ c.toNat := by omega
          simp [L_ref04_Tag_1, r0, r3, hlt, hlt', hx0, a1, h95, b1, b1', ht]
      · have h0' : ¬ (i : Int) = 0 := by omega
        by_cases hdig : 48 ≤ c.toNat ∧ c.toNat ≤ 57
        · have b1 : ¬ 97 ≤ c.toNat := by omega
          have b1' : ¬ (97 : Int) ≤ c.toNat := by omega
          have c1 : ¬ (c.toNat : Int) < 48 := by omega
          have c2 : ¬ (57 : Int) < c.toNat := by omega
          have d1 : ¬ c.toNat < 48 := by omega
          have d2 : ¬ 57 < c.toNat := by omega
          simp [L_ref04_Tag_1, r0, r3, hlt', hx, a1, h95, b1, b1', h0, h0', c1, c2, d1, d2, hw, -Int.natCast_add]
          simpa using fin (.inr ⟨h0, hdig⟩)
        · have ht := stopN (by rw [hnm, hlw']; simp; omega)
          by_cases c1 : c.toNat < 48
          · have c1' : (c.toNat : Int) < 48 := by omega
            have b1 : ¬ 97 ≤ c.toNat := by omega
            have b1' : ¬ (97 : Int) ≤ c.toNat := by omega
            simp [L_ref04_Tag_1, r0, r3, hlt', hx, a1, h95, b1, b1', h0, h0', c1, c1', ht]
          · have c1' : ¬ (c.toNat : Int) < 48 := by omega
            have d1 : 57 < c.toNat := by omega
            have d1' : (57 : Int) < c.toNat := by omega
            refine key _ (fun b1 b2 => ?_) (fun b1 => ?_)
            · have b1' : (97 : Int) ≤ c.toNat := by omega
              have b2' : ¬ (c.toNat : Int) ≤ 122 := by omega
              simp [L_ref04_Tag_1, r0, r3, hlt', hx, a1, h95, b1, b2, b1', b2', h0, h0', c1, c1', d1, d1', ht]
            · have b1' : ¬ (97 : Int) ≤ c.toNat := by omega
              simp [L_ref04_Tag_1, r0, r3, hlt', hx, a1, h95, b1, b1', h0, h0', c1, c1', d1, d1', ht]
  · have hlt' : ¬ (i : Int) < s.length := by omega
    have hi2 : i = s.length := by omega
    have hrun : runB isInName s = s.length := by rw [hrd, List.drop_of_length_le (by omega)]; simp [runB]; omega
    have ht : tagB s = !decide (s = []) := by
      unfold tagB
      rw [hrun]
      cases s with
      | nil => rfl
      | cons a r => rw [hp (by simp at hi2; omega)]; simp
    simp [L_ref04_Tag_1, K_ref04_Tag_1, r0, r3, hlt', ht]
    cases s <;> simp
theorem ref04_Name_call (h : Ref04N Γ A N) (h3 : Ref03S Γ A N) (s : List UInt8) (hl : s.length < 2 ^ 36) (H : Hp) : (lim Γ A).call (f_ref04_Name N) [avStr s] H = some (avBool (isNameB s), none) := by
  have e1 := fun H => ref04_Tag_call h s (by omega) H
  have e2 := fun H => ref03_IsWord_call h3 s hl H
  rw [nameB_tag]
  apply h.name.call (by rfl)
  cases ht : tagB s
  · simp [C_ref04_Name, e1, ht]
  · simp [C_ref04_Name, e1, e2, ht]
end
end Go.Proofs.Eng
