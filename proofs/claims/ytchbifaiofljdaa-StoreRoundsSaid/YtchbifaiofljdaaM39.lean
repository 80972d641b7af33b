import Derived.Test.YtchbifaiofljdaaM35
import Derived.Test.YtchbifaiofljdaaM38
import Derived.KernelRfl
/- Digits' numbers. -/
set_option linter.unusedVariables false
set_option linter.unusedSimpArgs false
namespace Go.Proofs.Eng
open Go
def addD (x : Nat) (c : UInt8) : Nat := x * 10 + (c.toNat - 48)
def numA (x : Nat) (s : List UInt8) : Nat := s.foldl addD x
def numD (s : List UInt8) : Nat := numA 0 s
theorem numA_cons (x : Nat) (c : UInt8) (s : List UInt8) : numA x (c :: s) = numA (addD x c) s := _root_.id rfl
theorem numA_snoc (x : Nat) (s : List UInt8) (c : UInt8) : numA x (s ++ [c]) = addD (numA x s) c := by
  unfold numA
  rw [List.foldl_append]
  exact _root_.id rfl
theorem numA_add (x : Nat) (s : List UInt8) : numA x s = x * 10 ^ s.length + numA 0 s := by
  induction s generalizing x with
  | nil => simp [numA]
  | cons a s ih =>
    rw [numA_cons, numA_cons, ih (addD x a), ih (addD 0 a)]
    unfold addD
    rw [List.length_cons, Nat.pow_succ, Nat.add_mul, Nat.mul_assoc, Nat.mul_comm 10, Nat.zero_mul, Nat.zero_add, Nat.add_assoc]
theorem numD_cons (c : UInt8) (s : List UInt8) : numD (c :: s) = (c.toNat - 48) * 10 ^ s.length + numD s := by
  unfold numD
  rw [numA_cons, numA_add]
  unfold addD
  rw [Nat.zero_mul, Nat.zero_add]
theorem dig {c : UInt8} (h : isDigit c = true) : 48 ≤ c.toNat ∧ c.toNat ≤ 57 := by simpa [isDigit] using h
theorem numD_lt {s : List UInt8} (h : s.all isDigit = true) : numD s < 10 ^ s.length := by
  induction s with
  | nil => simp [numD, numA]
  | cons c s ih =>
    simp only [List.all_cons, Bool.and_eq_true] at h
    have := ih h.2
    have hd := dig h.1
    rw [numD_cons, List.length_cons, Nat.pow_succ]
    have h2 : (c.toNat - 48) * 10 ^ s.length ≤ 9 * 10 ^ s.length := Nat.mul_le_mul_right _ (by omega)
    omega
theorem numD_ge {c : UInt8} {s : List UInt8} (h : 49 ≤ c.toNat) : 10 ^ s.length ≤ numD (c :: s) := by
  rw [numD_cons]
  have : 1 * 10 ^ s.length ≤ (c.toNat - 48) * 10 ^ s.length := Nat.mul_le_mul_right _ (by omega)
  omega
theorem numD_lss : ∀ (s t : List UInt8), s.length = t.length → s.all isDigit = true → t.all isDigit = true → (Op.bytesLess s t = true ↔ numD s < numD t)
  | [], [], _, _, _ => by simp [Op.bytesLess]
  | [], _ :: _, h, _, _ => by simp at h
  | _ :: _, [], h, _, _ => by simp at h
  | a :: s, b :: t, h, hs, ht => by
    simp only [List.length_cons, Nat.add_right_cancel_iff] at h
    simp only [List.all_cons, Bool.and_eq_true] at hs ht
    have ih := numD_lss s t h hs.2 ht.2
    have ls := numD_lt hs.2
    have lt := numD_lt ht.2
    have da := dig hs.1
    have db := dig ht.1
    rw [numD_cons, numD_cons, ← h]
    rw [← h] at lt
    generalize 10 ^ s.length = p at *
    have hb : Op.bytesLess (a :: s) (b :: t) = (decide (a < b) || (a == b && Op.bytesLess s t)) := _root_.id rfl
    rw [hb, Bool.or_eq_true, decide_eq_true_eq, Bool.and_eq_true, beq_iff_eq, ih, UInt8.lt_iff_toNat_lt]
    constructor
    · rintro (h1 | ⟨rfl, h1⟩)
      · have : (a.toNat - 48 + 1) * p ≤ (b.toNat - 48) * p := Nat.mul_le_mul_right _ (by omega)
        rw [Nat.add_mul] at this
        omega
      · omega
    · intro h1
      rcases Nat.lt_trichotomy a.toNat b.toNat with h2 | h2 | h2
      · exact .inl h2
      · have : a = b := UInt8.toNat_inj.1 h2
        subst this
        exact .inr ⟨rfl, by omega⟩
      · have : (b.toNat - 48 + 1) * p ≤ (a.toNat - 48) * p := Nat.mul_le_mul_right _ (by omega)
        rw [Nat.add_mul] at this
        omega
theorem numD_inj : ∀ (s t : List UInt8), s.length = t.length → s.all isDigit = true → t.all isDigit = true → numD s = numD t → s = t := by
  intro s t h hs ht e
  have tot : ∀ (s t : List UInt8), s.length = t.length → Op.bytesLess s t = false → Op.bytesLess t s = false → s = t := by
    intro s
    induction s with
    | nil => intro t h _ _; cases t with | nil => rfl | cons => simp at h
    | cons a s ih =>
      intro t h h1 h2
      cases t with
      | nil => simp at h
      | cons b t =>
        have e1 : Op.bytesLess (a :: s) (b :: t) = (decide (a < b) || (a == b && Op.bytesLess s t)) := _root_.id rfl
        have e2 : Op.bytesLess (b :: t) (a :: s) = (decide (b < a) || (b == a && Op.bytesLess t s)) := _root_.id rfl
        rw [e1, Bool.or_eq_false_iff, decide_eq_false_iff_not, UInt8.lt_iff_toNat_lt] at h1
        rw [e2, Bool.or_eq_false_iff, decide_eq_false_iff_not, UInt8.lt_iff_toNat_lt] at h2
        have hab : a = b := UInt8.toNat_inj.1 (by omega)
        subst hab
        simp only [beq_self_eq_true, Bool.true_and] at h1 h2
        rw [ih t (by simpa using h) h1.2 h2.2]
  refine tot s t h ?_ ?_
  · rw [Bool.eq_false_iff]; intro k; have := (numD_lss s t h hs ht).1 k; omega
  · rw [Bool.eq_false_iff]; intro k; have := (numD_lss t s h.symm ht hs).1 k; omega
theorem greatest_val : numD greatest = 9223372036854775807 := by decide +kernel
theorem numberB_eq {s : List UInt8} (hs : s.all isDigit = true) (hne : s ≠ []) :
    numberB s = (decide (numD s ≤ 9223372036854775807) && (decide (s.length = 1) || !(s.head?.map fun c => decide (c.toNat = 48)).getD false)) := by
  obtain ⟨c, r, rfl⟩ : ∃ c r, s = c :: r := by cases s with | nil => exact absurd rfl hne | cons c r => exact ⟨c, r, rfl⟩
  have hd := dig (by simpa using (List.all_eq_true.1 hs) c List.mem_cons_self)
  have hlt := numD_lt hs
  unfold numberB
  simp only [List.head?_cons, Option.map_some, Option.getD_some]
  by_cases hr : r.length = 0
  · have h1 : (c :: r).length = 1 := by simp [hr]
    rw [h1] at hlt ⊢
    have : numD (c :: r) ≤ 9223372036854775807 := by omega
    simp [this]
  · have hl : 1 < (c :: r).length := by simp; omega
    have hl2 : ¬ (c :: r).length = 1 := by omega
    by_cases h48 : c.toNat = 48
    · simp only [h48, hl, hl2, decide_true, decide_false, Bool.and_self, Bool.not_true, Bool.false_and, Bool.or_self, Bool.and_false, Bool.or_false]
    · have hge := numD_ge (c := c) (s := r) (by omega)
      have hlen : (c :: r).length = r.length + 1 := rfl
      rcases Nat.lt_trichotomy (c :: r).length 19 with h | h | h
      · have : 10 ^ (c :: r).length ≤ 10 ^ 18 := Nat.pow_le_pow_right (by omega) (by omega)
        have h2 : numD (c :: r) ≤ 9223372036854775807 := by omega
        simp only [h, h2, h48, hl, hl2, decide_true, decide_false, Bool.and_false, Bool.not_false, Bool.true_or, Bool.true_and, Bool.false_or]
      · have e1 := numD_lss (c :: r) greatest (by rw [h]; rfl) hs (by decide)
        have e2 := numD_inj (c :: r) greatest (by rw [h]; rfl) hs (by decide)
        rw [greatest_val] at e1 e2
        have h3 : ¬ (c :: r).length < 19 := by omega
        have key : (Op.bytesLess (c :: r) greatest || (c :: r) == greatest) = decide (numD (c :: r) ≤ 9223372036854775807) := by
          rw [Bool.eq_iff_iff, Bool.or_eq_true, e1, beq_iff_eq, decide_eq_true_eq]
          constructor
          · rintro (h1 | h1)
            · omega
            · rw [h1, greatest_val]; omega
          · intro h1
            rcases Nat.lt_or_ge (numD (c :: r)) 9223372036854775807 with h4 | h4
            · exact .inl h4
            · exact .inr (e2 (by omega))
        rw [key]
        simp only [h, h3, h48, hl, hl2, decide_true, decide_false, Bool.and_false, Bool.not_false, Bool.true_or, Bool.true_and, Bool.false_or, Bool.and_true]
        simp
      · have : 10 ^ 19 ≤ 10 ^ r.length := Nat.pow_le_pow_right (by omega) (by omega)
        have h2 : ¬ numD (c :: r) ≤ 9223372036854775807 := by omega
        have h3 : ¬ (c :: r).length < 19 := by omega
        have h4 : ¬ (c :: r).length = 19 := by omega
        simp only [h2, h3, h4, decide_false, Bool.false_and, Bool.false_or, Bool.and_false]
end Go.Proofs.Eng
/- The reference of chapter 3, run by the engine: numbers, strings, signs. -/
set_option linter.unusedVariables false
set_option linter.unusedSimpArgs false
set_option maxRecDepth 100000
namespace Go.Proofs.Eng
open Go
section
variable {Γ : Sums} {A : Tab} {N : Nat → Nat}
@[simp] theorem abin_subB {c : UInt8} {n : Int} : abin .sub (avByte c) (.lit (.int .u8 n)) = some (avInt .u8 (IntKind.wrap .u8 (c.toNat - n))) := by simp [avByte]

def numOk (s : List UInt8) : Bool := decide (numD (s.take (runB isDigit s)) ≤ 9223372036854775807) && (decide (runB isDigit s = 1) || !(s.head?.map fun c => decide (c.toNat = 48)).getD false)
theorem ref03_number_call (h : Ref03S Γ A N) {x : AV} {b : List UInt8} (H : Hp) (hx : VBytes H x b) (hl : b.length < 2 ^ 36) (a : Nat) (ha : a < b.length) :
    (lim Γ A).call (f_ref03_number N) [x, avInt .i64 a] H = some (.tup [avInt .i64 (runB isDigit (b.drop a)), avBool (numOk (b.drop a))], none) := by
  apply h.number.call (by rfl)
  have hlen := Vw.len hx
  rw [List.length_map] at hlen
  have hx0 : VBytes { l := H.l, d := none } x b := hx.dd none
  have hsl : (b.drop a).length = b.length - a := List.length_drop
  simp [C_ref03_number, -Int.natCast_add]
  refine wp_round (fun k ρ H' => H' = { l := H.l, d := none } ∧ ∃ (i xv : Nat), ρ 0 = x ∧ ρ 1 = avInt .i64 a ∧ ρ 6 = avInt .i64 i ∧ ρ 7 = avInt .u64 xv ∧ ρ 8 = avBool (decide (numD ((b.drop a).take i) ≤ 9223372036854775807)) ∧ a + i ≤ b.length ∧
      xv ≤ 9223372036854775807 ∧ (numD ((b.drop a).take i) ≤ 9223372036854775807 → xv = numD ((b.drop a).take i)) ∧ runB isDigit (b.drop a) = i + runB isDigit ((b.drop a).drop i) ∧ k = b.length - (a + i)) (n := b.length - a) ?_ ?_
  · exact ⟨rfl, 0, 0, rfl, rfl, rfl, rfl, rfl, by omega, by omega, fun _ => rfl, by simp, by simp⟩
  rintro k ρ H' ⟨rfl, i, xv, r0, r1, r6, r7, r8, hi, hxv, hxe, hr, rfl⟩
  have hw : IntKind.wrap .i64 ((a : Int) + (i : Int)) = ((a + i : Nat) : Int) := by rw [wrap64 (by omega) (by omega)]; omega
  have fin : runB isDigit ((b.drop a).drop i) = 0 → ∀ ρ : Rho, ρ 0 = x → ρ 1 = avInt .i64 a → ρ 6 = avInt .i64 i → ρ 8 = avBool (decide (numD ((b.drop a).take i) ≤ 9223372036854775807)) →
      wp (lim Γ A) none (K_ref03_number_1 N) ρ { l := H.l, d := none } (Ends [.inl 4, .inl 5] false H fun p => p = (.tup [avInt .i64 (runB isDigit (b.drop a)), avBool (numOk (b.drop a))], none)) := by
    intro hz ρ r0 r1 r6 r8
    rw [hz, Nat.add_zero] at hr
    obtain ⟨p, hp1, hp2⟩ := VBytes.at' hx0 (k := .i64) (i := (a : Int)) (by omega) (by simpa using ha)
    simp only [Int.toNat_natCast] at hp1 hp2
    have hd : b.drop a = b[a] :: b.drop (a + 1) := List.drop_eq_getElem_cons ha
    have hh : (b.drop a).head? = some b[a] := by rw [hd]; rfl
    unfold numOk
    rw [hr, hh]
    generalize b[a] = c at *
    generalize numD ((b.drop a).take i) = v at *
    by_cases g1 : v ≤ 9223372036854775807
    · by_cases g2 : i = 1
      · have g2' : (i : Int) = 1 := by omega
        simp [K_ref03_number_1, r0, r1, r6, r8, g1, g2, g2']
      · have g2' : ¬ (i : Int) = 1 := by omega
        by_cases g3 : c.toNat = 48
        · have g3' : (c.toNat : Int) = 48 := by omega
          simp [K_ref03_number_1, r0, r1, r6, r8, g1, g2, g2', hp1, hp2, g3, g3']
        · have g3' : ¬ (c.toNat : Int) = 48 := by omega
          simp [K_ref03_number_1, r0, r1, r6, r8, g1, g2, g2', hp1, hp2, g3, g3']
    · simp [K_ref03_number_1, r0, r1, r6, r8, g1]
  by_cases hil : a + i < b.length
  · have hil' : ((a + i : Nat) : Int) < b.length := by omega
    obtain ⟨q, hq1, hq2⟩ := VBytes.at' hx0 (k := .i64) (i := ((a + i : Nat) : Int)) (by omega) (by rw [Int.toNat_natCast]; exact hil)
    simp only [Int.toNat_natCast] at hq1 hq2
    have hd2 : (b.drop a).drop i = b[a + i] :: (b.drop a).drop (i + 1) := by
      rw [List.drop_drop, List.drop_drop, List.drop_eq_getElem_cons hil, Nat.add_assoc]
    have htk : (b.drop a).take (i + 1) = (b.drop a).take i ++ [b[a + i]] := by
      rw [List.take_succ_eq_append_getElem (by omega)]
      simp
    have hdig2 := ref03_digit_call h b[a + i]
    rw [hd2] at hr fin
    generalize b[a + i] = e at *
    cases hde : isDigit e <;> rw [hde] at hdig2
    · have hz := runB_stop (p := isDigit) (a := e) (s := (b.drop a).drop (i + 1)) hde
      simp [L_ref03_number_1, r0, r1, r6, r7, r8, hw, hlen, hil', hq1, hq2, hdig2, -Int.natCast_add]
      refine fin hz _ ?_ ?_ ?_ ?_ <;> simp [r0, r1, r6, r8]
    · have hdd := dig hde
      have hw2 : IntKind.wrap .i64 ((i : Int) + 1) = ((i + 1 : Nat) : Int) := by rw [wrap64 (by omega) (by omega)]; omega
      have hwd : IntKind.wrap .u8 ((e.toNat : Int) - 48) = ((e.toNat - 48 : Nat) : Int) := by rw [wrap8]; omega
      have hwu : IntKind.wrap .u64 ((e.toNat - 48 : Nat) : Int) = ((e.toNat - 48 : Nat) : Int) := by rw [wrapu64]; omega
      have hnd : numD ((b.drop a).take (i + 1)) = numD ((b.drop a).take i) * 10 + (e.toNat - 48) := by rw [htk]; exact numA_snoc _ _ _
      have hr2 : runB isDigit (b.drop a) = i + 1 + runB isDigit ((b.drop a).drop (i + 1)) := by
        rw [hr]; simp [runB, hde]; omega
      have hds : ((e.toNat - 48 : Nat) : Int) ≤ 9 := by omega
      generalize hdv : e.toNat - 48 = d at *
      generalize hv : numD ((b.drop a).take i) = v at *
      have d7 : (7 : Int) < (d : Int) ↔ 7 < d := by omega
      have x1 : (922337203685477580 : Int) < (xv : Int) ↔ 922337203685477580 < xv := by omega
      have x2 : (xv : Int) = 922337203685477580 ↔ xv = 922337203685477580 := by omega
      rw [List.drop_drop] at hr2
      by_cases gv : v ≤ 9223372036854775807
      · have hxv2 := hxe gv
        subst hxv2
        by_cases g1 : 922337203685477580 < xv
        · have hov : ¬ numD ((b.drop a).take (i + 1)) ≤ 9223372036854775807 := by omega
          simp [L_ref03_number_1, r0, r1, r6, r7, r8, hw, hw2, hlen, hil', hq1, hq2, hdig2, hwd, hwu, x1, x2, d7, g1, gv, -Int.natCast_add]
          exact ⟨_, by omega, i + 1, rfl, xv, rfl, by omega, by omega, hxv, fun k => absurd k hov, hr2, rfl⟩
        · by_cases g2 : xv = 922337203685477580
          · by_cases g3 : 7 < d
            · have hov : ¬ numD ((b.drop a).take (i + 1)) ≤ 9223372036854775807 := by omega
              simp [L_ref03_number_1, r0, r1, r6, r7, r8, hw, hw2, hlen, hil', hq1, hq2, hdig2, hwd, hwu, x1, x2, d7, g1, g2, g3, -Int.natCast_add]
              exact ⟨_, by omega, i + 1, rfl, xv, by rw [g2]; rfl, by omega, by omega, hxv, fun k => absurd k hov, hr2, rfl⟩
            · have hwm : IntKind.wrap .u64 ((xv : Int) * 10) = ((xv * 10 : Nat) : Int) := by rw [wrapu64]; omega
              have hwm2 : IntKind.wrap .u64 (((xv * 10 : Nat) : Int) + (d : Int)) = ((xv * 10 + d : Nat) : Int) := by rw [wrapu64]; omega
              have x1' : ¬ (922337203685477580 : Int) < (xv : Int) := by omega
              have x2' : (xv : Int) = 922337203685477580 := by omega
              simp [L_ref03_number_1, r0, r1, r6, r7, r8, hw, hw2, hlen, hil', hq1, hq2, hdig2, hwd, hwu, d7, x1', x2', g3, gv, -Int.natCast_add]
              exact ⟨_, by omega, i + 1, rfl, xv * 10 + d, by rw [wrapu64, wrapu64]; omega, by omega, by omega, by omega, fun _ => hnd.symm, hr2, rfl⟩
          · have hwm : IntKind.wrap .u64 ((xv : Int) * 10) = ((xv * 10 : Nat) : Int) := by rw [wrapu64]; omega
            have hwm2 : IntKind.wrap .u64 (((xv * 10 : Nat) : Int) + (d : Int)) = ((xv * 10 + d : Nat) : Int) := by rw [wrapu64]; omega
            simp [L_ref03_number_1, r0, r1, r6, r7, r8, hw, hw2, hlen, hil', hq1, hq2, hdig2, hwd, hwu, x1, x2, d7, g1, g2, gv, hwm, hwm2, -Int.natCast_add, -Int.natCast_mul]
            exact ⟨_, by omega, i + 1, rfl, xv * 10 + d, rfl, by omega, by omega, by omega, fun _ => hnd.symm, hr2, rfl⟩
      · have hov : ¬ numD ((b.drop a).take (i + 1)) ≤ 9223372036854775807 := by omega
        by_cases g1 : 922337203685477580 < xv
        · simp [L_ref03_number_1, r0, r1, r6, r7, r8, hw, hw2, hlen, hil', hq1, hq2, hdig2, hwd, hwu, x1, x2, d7, g1, gv, -Int.natCast_add]
          exact ⟨_, by omega, i + 1, rfl, xv, rfl, by omega, by omega, hxv, fun k => absurd k hov, hr2, rfl⟩
        · by_cases g2 : xv = 922337203685477580
          · have x1' : ¬ (922337203685477580 : Int) < (xv : Int) := by omega
            have x2' : (xv : Int) = 922337203685477580 := by omega
            by_cases g3 : 7 < d
            · simp [L_ref03_number_1, r0, r1, r6, r7, r8, hw, hw2, hlen, hil', hq1, hq2, hdig2, hwd, hwu, d7, x1', x2', g3, gv, -Int.natCast_add]
              exact ⟨_, by omega, i + 1, rfl, xv, by rw [g2]; rfl, by omega, by omega, hxv, fun k => absurd k hov, hr2, rfl⟩
            · simp [L_ref03_number_1, r0, r1, r6, r7, r8, hw, hw2, hlen, hil', hq1, hq2, hdig2, hwd, hwu, d7, x1', x2', g3, gv, -Int.natCast_add]
              exact ⟨_, by omega, i + 1, rfl, xv, by rw [g2]; rfl, by omega, by omega, hxv, fun k => absurd k hov, hr2, rfl⟩
          · simp [L_ref03_number_1, r0, r1, r6, r7, r8, hw, hw2, hlen, hil', hq1, hq2, hdig2, hwd, hwu, x1, x2, d7, g1, g2, gv, -Int.natCast_add]
            exact ⟨_, by omega, i + 1, rfl, xv, rfl, by omega, by omega, hxv, fun k => absurd k hov, hr2, rfl⟩
  · have hil' : ¬ ((a + i : Nat) : Int) < b.length := by omega
    have hz : runB isDigit ((b.drop a).drop i) = 0 := by rw [List.drop_drop, List.drop_of_length_le (by omega)]; rfl
    simp [L_ref03_number_1, r0, r1, r6, r7, r8, hw, hlen, hil', -Int.natCast_add]
    refine fin hz _ ?_ ?_ ?_ ?_ <;> simp [r0, r1, r6, r8]

/-- The string behind a quote: as the reference tells it. -/
theorem ref03_str_call (h : Ref03S Γ A N) {x : AV} {b : List UInt8} (H : Hp) (hx : VBytes H x b) (hl : b.length < 2 ^ 36) (a : Nat) (ha : a < b.length) :
    (lim Γ A).call (f_ref03_str N) [x, avInt .i64 a] H = some (match textB (b.drop (a + 1)) with | none => .tup [avStr [], avInt .i64 0] | some (t, n) => .tup [avStr t, avInt .i64 ((n + 1 : Nat) : Int)], none) := by
  obtain ⟨R, hR⟩ : ∃ R : AV × Option Hp → Prop, R = fun r => r = (match textB (b.drop (a + 1)) with | none => .tup [avStr [], avInt .i64 0] | some (t, n) => .tup [avStr t, avInt .i64 ((n + 1 : Nat) : Int)], none) := ⟨_, rfl⟩
  have key : ∃ r, (lim Γ A).call (f_ref03_str N) [x, avInt .i64 a] H = some r ∧ R r := by
    apply h.str.callP (by rfl)
    have hlen := Vw.len hx
    rw [List.length_map] at hlen
    have hw0 : IntKind.wrap .i64 ((a : Int) + 1) = ((a + 1 : Nat) : Int) := by rw [wrap64 (by omega) (by omega)]; omega
    simp [C_ref03_str, hw0, -Int.natCast_add]
    refine wp_round (fun k ρ H' => ∃ (i : Nat) (pre : List UInt8) (os : List (Nat × AObj)), Loc H H' os ∧ ρ 0 = x ∧ ρ 1 = avInt .i64 a ∧ ρ 6 = avStr pre ∧ ρ 7 = avInt .i64 i ∧ i ≤ b.length ∧ a + 1 ≤ i ∧ pre.length ≤ i ∧
        textB (b.drop (a + 1)) = (textB (b.drop i)).map (fun q => (pre ++ q.1, q.2 + (i - (a + 1)))) ∧ k = b.length - i) (n := b.length - (a + 1)) ?_ ?_
    · exact ⟨a + 1, [], [], Loc.start H, rfl, rfl, rfl, rfl, by omega, by omega, by simp, by simp, rfl⟩
    · rintro k ρ H' ⟨i, pre, os, hL, r0, r1, r6, r7, hi, hai, hpl, ht, rfl⟩
      have hx0 : VBytes H' x b := Vw.loc hx hL
      have bad : textB (b.drop (a + 1)) = none → R (settle H (.tup [avStr [], avInt .i64 0]) H') := by
        intro e
        rw [settle_keeps (v := .tup [avStr [], avInt .i64 0]) hL.keeps (by simp), hR]
        simp [e]
      by_cases hlt : i < b.length
      · have hlt' : (i : Int) < b.length := by omega
        obtain ⟨q, hq1, hq2⟩ := VBytes.at' hx0 (k := .i64) (i := (i : Int)) (by omega) (by simpa using hlt)
        simp only [Int.toNat_natCast] at hq1 hq2
        have hd : b.drop i = b[i] :: b.drop (i + 1) := List.drop_eq_getElem_cons hlt
        have hsl : (b.drop i).take 1 = [b[i]] := by rw [hd]; rfl
        have hw : IntKind.wrap .i64 ((i : Int) + 1) = ((i + 1 : Nat) : Int) := by rw [wrap64 (by omega) (by omega)]; omega
        have hw3 : IntKind.wrap .i64 (((i + 1 : Nat) : Int) - (a : Int)) = ((i + 1 - a : Nat) : Int) := by rw [wrap64 (by omega) (by omega)]; omega
        obtain ⟨y, hy1, hy2⟩ := Vw.cut hx0 (k := .i64) (k' := .i64) (i := (i : Int)) (j := ((i + 1 : Nat) : Int)) (by omega) (by omega) (by rw [List.length_map]; omega)
        generalize hc : b[i] = c at *
        rw [hd] at ht
        by_cases c34 : c.toNat = 34
        · have c34' : (c.toNat : Int) = 34 := by omega
          have ht2 : textB (b.drop (a + 1)) = some (pre, 1 + (i - (a + 1))) := by rw [ht, textB_cons, if_pos c34]; simp
          have hk := settle_keeps (v := .tup [avStr pre, avInt .i64 ((i + 1 - a : Nat) : Int)]) hL.keeps (by simp)
          simp [L_ref03_str_1, r0, r1, r6, r7, hlen, hlt', hq1, hq2, c34', hw, hw3, hk, -Int.natCast_add]
          rw [hR, ht2]
          simp only []
          rw [show 1 + (i - (a + 1)) + 1 = i + 1 - a from by omega]
        · have c34' : ¬ (c.toNat : Int) = 34 := by omega
          by_cases c32 : c.toNat < 32
          · have c32' : (c.toNat : Int) < 32 := by omega
            simp [L_ref03_str_1, r0, r1, r6, r7, hlen, hlt', hq1, hq2, c34', c32', -Int.natCast_add]
            refine bad ?_
            rw [ht, textB_cons, if_neg c34, if_pos c32]; rfl
          · have c32' : ¬ (c.toNat : Int) < 32 := by omega
            by_cases c92 : c.toNat = 92
            · have c92' : (c.toNat : Int) = 92 := by omega
              have hw2 : IntKind.wrap .i64 ((i : Int) + 2) = ((i + 2 : Nat) : Int) := by rw [wrap64 (by omega) (by omega)]; omega
              by_cases hge : b.length ≤ i + 1
              · have hge' : (b.length : Int) ≤ ((i + 1 : Nat) : Int) := by omega
                simp [L_ref03_str_1, r0, r1, r6, r7, hlen, hlt', hq1, hq2, c34', c32', c92', hw, hge', -Int.natCast_add]
                refine bad ?_
                rw [ht, textB_cons, if_neg c34, if_neg c32, if_pos c92, List.drop_of_length_le (by omega)]; rfl
              have hge' : ¬ (b.length : Int) ≤ ((i + 1 : Nat) : Int) := by omega
              have hlt2 : i + 1 < b.length := by omega
              obtain ⟨q', hq3, hq4⟩ := VBytes.at' hx0 (k := .i64) (i := ((i + 1 : Nat) : Int)) (by omega) (by rw [Int.toNat_natCast]; exact hlt2)
              simp only [Int.toNat_natCast] at hq3 hq4
              have hd2 : b.drop (i + 1) = b[i + 1] :: b.drop (i + 2) := List.drop_eq_getElem_cons hlt2
              generalize hdd : b[i + 1] = d at *
              rw [hd2] at ht
              by_cases d0 : d.toNat = 34
              · have d0' : (d.toNat : Int) = 34 := by omega
                have hed : escB d = some 34 := by unfold escB; simp [d0]
                have hadd := abin_strAdd (s := mkS pre) (t := mkS [34]) (by simp; omega)
                simp only [bl_mkS] at hadd
                have hb1 : bytesOf [.lit (.int .u8 34)] = some [34] := rfl
                simp [L_ref03_str_1, r0, r1, r6, r7, hlen, hlt', hq1, hq2, c34', c32', c92', hw, hge', hq3, hq4, d0', asElems, hb1, hadd, hw2, -Int.natCast_add]
                refine ⟨_, ?_, ⟨_, hL.alloc _⟩, i + 2, pre ++ [34], rfl, rfl, by omega, by omega, by simp; omega, ?_, rfl⟩
                · omega
                · rw [ht, textB_cons, if_neg c34, if_neg c32, if_pos c92]
                  simp only [hed, Option.map_map]
                  congr 1
                  funext q
                  simp
                  omega
              have d0n : ¬ (d.toNat : Int) = 34 := by omega
              by_cases d1 : d.toNat = 92
              · have d1' : (d.toNat : Int) = 92 := by omega
                have hed : escB d = some 92 := by unfold escB; simp [d1]
                have hadd := abin_strAdd (s := mkS pre) (t := mkS [92]) (by simp; omega)
                simp only [bl_mkS] at hadd
                have hb1 : bytesOf [.lit (.int .u8 92)] = some [92] := rfl
                simp [L_ref03_str_1, r0, r1, r6, r7, hlen, hlt', hq1, hq2, c34', c32', c92', hw, hge', hq3, hq4, d0n, d1', asElems, hb1, hadd, hw2, -Int.natCast_add]
                refine ⟨_, ?_, ⟨_, hL.alloc _⟩, i + 2, pre ++ [92], rfl, rfl, by omega, by omega, by simp; omega, ?_, rfl⟩
                · omega
                · rw [ht, textB_cons, if_neg c34, if_neg c32, if_pos c92]
                  simp only [hed, Option.map_map]
                  congr 1
                  funext q
                  simp
                  omega
              have d1n : ¬ (d.toNat : Int) = 92 := by omega
              by_cases d2 : d.toNat = 110
              · have d2' : (d.toNat : Int) = 110 := by omega
                have hed : escB d = some 10 := by unfold escB; simp [d2]
                have hadd := abin_strAdd (s := mkS pre) (t := mkS [10]) (by simp; omega)
                simp only [bl_mkS] at hadd
                have hb1 : bytesOf [.lit (.int .u8 10)] = some [10] := rfl
                simp [L_ref03_str_1, r0, r1, r6, r7, hlen, hlt', hq1, hq2, c34', c32', c92', hw, hge', hq3, hq4, d0n, d1n, d2', asElems, hb1, hadd, hw2, -Int.natCast_add]
                refine ⟨_, ?_, ⟨_, hL.alloc _⟩, i + 2, pre ++ [10], rfl, rfl, by omega, by omega, by simp; omega, ?_, rfl⟩
                · omega
                · rw [ht, textB_cons, if_neg c34, if_neg c32, if_pos c92]
                  simp only [hed, Option.map_map]
                  congr 1
                  funext q
                  simp
                  omega
              · have hed : escB d = none := by unfold escB; rw [if_neg d0, if_neg d1, if_neg d2]
                have d2n : ¬ (d.toNat : Int) = 110 := by omega
                simp [L_ref03_str_1, r0, r1, r6, r7, hlen, hlt', hq1, hq2, c34', c32', c92', hw, hge', hq3, hq4, d0n, d1n, d2n, -Int.natCast_add]
                refine bad ?_
                rw [ht, textB_cons, if_neg c34, if_neg c32, if_pos c92]
                simp only [hed]
                rfl
            · have c92' : ¬ (c.toNat : Int) = 92 := by omega
              have hys := Vw.elems hy2
              have hadd := abin_strAdd (s := mkS pre) (t := mkS [c]) (by simp; omega)
              simp only [bl_mkS] at hadd
              have hb1 : ((b.map avByte).drop (i : Int).toNat).take (((i + 1 : Nat) : Int).toNat - (i : Int).toNat) = [avByte c] := by
                rw [Int.toNat_natCast, Int.toNat_natCast, show i + 1 - i = 1 from by omega, ← List.map_drop, hd]; rfl
              rw [hb1] at hys
              have hb2 : bytesOf [avByte c] = some [c] := bytesOf_bytes [c]
              simp [L_ref03_str_1, r0, r1, r6, r7, hlen, hlt', hq1, hq2, c34', c32', c92', hw, hy1, hys, hb2, hadd, -Int.natCast_add]
              refine ⟨_, ?_, ⟨_, hL⟩, i + 1, pre ++ [c], rfl, rfl, by omega, by omega, by simp; omega, ?_, rfl⟩
              · omega
              · rw [ht, textB_cons, if_neg c34, if_neg c32, if_neg c92]
                simp only [Option.map_map]
                congr 1
                funext q
                simp
                omega
      · have hlt' : ¬ (i : Int) < b.length := by omega
        simp [L_ref03_str_1, K_ref03_str_1, r0, r7, hlen, hlt']
        refine bad ?_
        rw [ht, List.drop_of_length_le (by omega)]; rfl
  obtain ⟨r, e, hr⟩ := key
  rw [hR] at hr
  rw [e, hr]
end
end Go.Proofs.Eng
/- The reference of chapter 3, run by the engine: signs. -/
set_option linter.unusedVariables false
set_option linter.unusedSimpArgs false
set_option maxRecDepth 100000
namespace Go.Proofs.Eng
open Go
section
variable {Γ : Sums} {A : Tab} {N : Nat → Nat}
def twoL : List (List UInt8) := [[61, 62], [45, 62], [61, 61], [46, 46], [43, 46], [45, 46], [42, 46], [47, 46], [60, 46]]
def oneL : List Nat := [40, 41, 123, 125, 91, 93, 44, 59, 58, 46, 61, 124, 43, 45, 42, 47, 60, 94]
/-- How many bytes the sign at the head has. -/
def signN (c : UInt8) (s : List UInt8) : Nat := if s.take 2 ∈ twoL then 2 else if c.toNat ∈ oneL then 1 else 0
theorem signN_two {c : UInt8} {s : List UInt8} (h : s.take 2 ∈ twoL) : signN c s = 2 := by simp [signN, h]
theorem signN_one {c : UInt8} {s : List UInt8} (h : ¬ s.take 2 ∈ twoL) (h2 : c.toNat ∈ oneL) : signN c s = 1 := by simp [signN, h, h2]
theorem signN_none {c : UInt8} {s : List UInt8} (h : ¬ s.take 2 ∈ twoL) (h2 : ¬ c.toNat ∈ oneL) : signN c s = 0 := by simp [signN, h, h2]
theorem two_len {x : List UInt8} (h : x ∈ twoL) : x.length = 2 := by
  have : ∀ x ∈ twoL, x.length = 2 := by decide
  exact this x h

set_option maxHeartbeats 4000000 in
theorem ref03_sign_call (h : Ref03S Γ A N) {x : AV} {b : List UInt8} {c : UInt8} (H : Hp) (hx : VBytes H x b) (hl : b.length < 2 ^ 36) (a : Nat) (ha : a < b.length) (hc : b[a] = c) :
    (lim Γ A).call (f_ref03_sign N) [x, avInt .i64 a] H = some (avInt .i64 (signN c (b.drop a)), none) := by
  apply h.sign.call (by rfl)
  have hlen := Vw.len hx
  rw [List.length_map] at hlen
  have hx0 : VBytes { l := H.l, d := none } x b := hx.dd none
  obtain ⟨p, hp1, hp2⟩ := VBytes.at' hx0 (k := .i64) (i := (a : Int)) (by omega) (by simpa using ha)
  simp only [Int.toNat_natCast, hc] at hp1 hp2
  have hw : IntKind.wrap .i64 ((a : Int) + 2) = ((a + 2 : Nat) : Int) := by rw [wrap64 (by omega) (by omega)]; omega
  by_cases h2 : a + 2 ≤ b.length
  · have h2' : ((a + 2 : Nat) : Int) ≤ b.length := by omega
    obtain ⟨y, hy1, hy2⟩ := Vw.cut hx0 (k := .i64) (k' := .i64) (i := (a : Int)) (j := ((a + 2 : Nat) : Int)) (by omega) (by omega) (by rw [List.length_map]; omega)
    rw [Int.toNat_natCast, Int.toNat_natCast, show a + 2 - a = 2 from by omega, ← List.map_drop, ← List.map_take] at hy2
    have hys := VBytes.str hy2
    by_cases hm : (b.drop a).take 2 ∈ twoL
    · rw [signN_two hm]
      have hm2 := hm
      generalize (b.drop a).take 2 = t at *
      simp only [twoL, List.mem_cons, List.not_mem_nil, or_false] at hm2
      rcases hm2 with rfl | rfl | rfl | rfl | rfl | rfl | rfl | rfl | rfl <;> simp [C_ref03_sign, hlen, hw, h2', hy1, hys, -Int.natCast_add]
    · have hm2 := hm
      simp only [twoL, List.mem_cons, List.not_mem_nil, or_false, not_or] at hm2
      obtain ⟨m0, m1, m2, m3, m4, m5, m6, m7, m8⟩ := hm2
      generalize hs2 : (b.drop a).take 2 = t at *
      rw [← hs2] at hm
      by_cases q0 : (c.toNat : Int) = 40
      · rw [signN_one hm (by rw [show c.toNat = 40 from by omega]; decide)]
        simp [C_ref03_sign, hlen, hp1, hp2, hw, h2', hy1, hys, m0, m1, m2, m3, m4, m5, m6, m7, m8, q0, -Int.natCast_add]
      by_cases q1 : (c.toNat : Int) = 41
      · rw [signN_one hm (by rw [show c.toNat = 41 from by omega]; decide)]
        simp [C_ref03_sign, hlen, hp1, hp2, hw, h2', hy1, hys, m0, m1, m2, m3, m4, m5, m6, m7, m8, q0, q1, -Int.natCast_add]
      by_cases q2 : (c.toNat : Int) = 123
      · rw [signN_one hm (by rw [show c.toNat = 123 from by omega]; decide)]
        simp [C_ref03_sign, hlen, hp1, hp2, hw, h2', hy1, hys, m0, m1, m2, m3, m4, m5, m6, m7, m8, q0, q1, q2, -Int.natCast_add]
      by_cases q3 : (c.toNat : Int) = 125
      · rw [signN_one hm (by rw [show c.toNat = 125 from by omega]; decide)]
        simp [C_ref03_sign, hlen, hp1, hp2, hw, h2', hy1, hys, m0, m1, m2, m3, m4, m5, m6, m7, m8, q0, q1, q2, q3, -Int.natCast_add]
      by_cases q4 : (c.toNat : Int) = 91
      · rw [signN_one hm (by rw [show c.toNat = 91 from by omega]; decide)]
        simp [C_ref03_sign, hlen, hp1, hp2, hw, h2', hy1, hys, m0, m1, m2, m3, m4, m5, m6, m7, m8, q0, q1, q2, q3, q4, -Int.natCast_add]
      by_cases q5 : (c.toNat : Int) = 93
      · rw [signN_one hm (by rw [show c.toNat = 93 from by omega]; decide)]
        simp [C_ref03_sign, hlen, hp1, hp2, hw, h2', hy1, hys, m0, m1, m2, m3, m4, m5, m6, m7, m8, q0, q1, q2, q3, q4, q5, -Int.natCast_add]
      by_cases q6 : (c.toNat : Int) = 44
      · rw [signN_one hm (by rw [show c.toNat = 44 from by omega]; decide)]
        simp [C_ref03_sign, hlen, hp1, hp2, hw, h2', hy1, hys, m0, m1, m2, m3, m4, m5, m6, m7, m8, q0, q1, q2, q3, q4, q5, q6, -Int.natCast_add]
      by_cases q7 : (c.toNat : Int) = 59
      · rw [signN_one hm (by rw [show c.toNat = 59 from by omega]; decide)]
        simp [C_ref03_sign, hlen, hp1, hp2, hw, h2', hy1, hys, m0, m1, m2, m3, m4, m5, m6, m7, m8, q0, q1, q2, q3, q4, q5, q6, q7, -Int.natCast_add]
      by_cases q8 : (c.toNat : Int) = 58
      · rw [signN_one hm (by rw [show c.toNat = 58 from by omega]; decide)]
        simp [C_ref03_sign, hlen, hp1, hp2, hw, h2', hy1, hys, m0, m1, m2, m3, m4, m5, m6, m7, m8, q0, q1, q2, q3, q4, q5, q6, q7, q8, -Int.natCast_add]
      by_cases q9 : (c.toNat : Int) = 46
      · rw [signN_one hm (by rw [show c.toNat = 46 from by omega]; decide)]
        simp [C_ref03_sign, hlen, hp1, hp2, hw, h2', hy1, hys, m0, m1, m2, m3, m4, m5, m6, m7, m8, q0, q1, q2, q3, q4, q5, q6, q7, q8, q9, -Int.natCast_add]
      by_cases q10 : (c.toNat : Int) = 61
      · rw [signN_one hm (by rw [show c.toNat = 61 from by omega]; decide)]
        simp [C_ref03_sign, hlen, hp1, hp2, hw, h2', hy1, hys, m0, m1, m2, m3, m4, m5, m6, m7, m8, q0, q1, q2, q3, q4, q5, q6, q7, q8, q9, q10, -Int.natCast_add]
      by_cases q11 : (c.toNat : Int) = 124
      · rw [signN_one hm (by rw [show c.toNat = 124 from by omega]; decide)]
        simp [C_ref03_sign, hlen, hp1, hp2, hw, h2', hy1, hys, m0, m1, m2, m3, m4, m5, m6, m7, m8, q0, q1, q2, q3, q4, q5, q6, q7, q8, q9, q10, q11, -Int.natCast_add]
      by_cases q12 : (c.toNat : Int) = 43
      · rw [signN_one hm (by rw [show c.toNat = 43 from by omega]; decide)]
        simp [C_ref03_sign, hlen, hp1, hp2, hw, h2', hy1, hys, m0, m1, m2, m3, m4, m5, m6, m7, m8, q0, q1, q2, q3, q4, q5, q6, q7, q8, q9, q10, q11, q12, -Int.natCast_add]
      by_cases q13 : (c.toNat : Int) = 45
      · rw [signN_one hm (by rw [show c.toNat = 45 from by omega]; decide)]
        simp [C_ref03_sign, hlen, hp1, hp2, hw, h2', hy1, hys, m0, m1, m2, m3, m4, m5, m6, m7, m8, q0, q1, q2, q3, q4, q5, q6, q7, q8, q9, q10, q11, q12, q13, -Int.natCast_add]
      by_cases q14 : (c.toNat : Int) = 42
      · rw [signN_one hm (by rw [show c.toNat = 42 from by omega]; decide)]
        simp [C_ref03_sign, hlen, hp1, hp2, hw, h2', hy1, hys, m0, m1, m2, m3, m4, m5, m6, m7, m8, q0, q1, q2, q3, q4, q5, q6, q7, q8, q9, q10, q11, q12, q13, q14, -Int.natCast_add]
      by_cases q15 : (c.toNat : Int) = 47
      · rw [signN_one hm (by rw [show c.toNat = 47 from by omega]; decide)]
        simp [C_ref03_sign, hlen, hp1, hp2, hw, h2', hy1, hys, m0, m1, m2, m3, m4, m5, m6, m7, m8, q0, q1, q2, q3, q4, q5, q6, q7, q8, q9, q10, q11, q12, q13, q14, q15, -Int.natCast_add]
      by_cases q16 : (c.toNat : Int) = 60
      · rw [signN_one hm (by rw [show c.toNat = 60 from by omega]; decide)]
        simp [C_ref03_sign, hlen, hp1, hp2, hw, h2', hy1, hys, m0, m1, m2, m3, m4, m5, m6, m7, m8, q0, q1, q2, q3, q4, q5, q6, q7, q8, q9, q10, q11, q12, q13, q14, q15, q16, -Int.natCast_add]
      by_cases q17 : (c.toNat : Int) = 94
      · rw [signN_one hm (by rw [show c.toNat = 94 from by omega]; decide)]
        simp [C_ref03_sign, hlen, hp1, hp2, hw, h2', hy1, hys, m0, m1, m2, m3, m4, m5, m6, m7, m8, q0, q1, q2, q3, q4, q5, q6, q7, q8, q9, q10, q11, q12, q13, q14, q15, q16, q17, -Int.natCast_add]
      rw [signN_none hm (by simp only [oneL, List.mem_cons, List.not_mem_nil, or_false, not_or]; refine ⟨?_, ?_, ?_, ?_, ?_, ?_, ?_, ?_, ?_, ?_, ?_, ?_, ?_, ?_, ?_, ?_, ?_, ?_⟩ <;> omega)]
      simp [C_ref03_sign, hlen, hp1, hp2, hw, h2', hy1, hys, m0, m1, m2, m3, m4, m5, m6, m7, m8, q0, q1, q2, q3, q4, q5, q6, q7, q8, q9, q10, q11, q12, q13, q14, q15, q16, q17, -Int.natCast_add]
  · have h2' : ¬ ((a + 2 : Nat) : Int) ≤ b.length := by omega
    have hm : ¬ (b.drop a).take 2 ∈ twoL := by
      intro hm
      have := two_len hm
      rw [List.length_take, List.length_drop] at this
      omega
    by_cases q0 : (c.toNat : Int) = 40
    · rw [signN_one hm (by rw [show c.toNat = 40 from by omega]; decide)]
      simp [C_ref03_sign, hlen, hp1, hp2, hw, h2', q0, -Int.natCast_add]
    by_cases q1 : (c.toNat : Int) = 41
    · rw [signN_one hm (by rw [show c.toNat = 41 from by omega]; decide)]
      simp [C_ref03_sign, hlen, hp1, hp2, hw, h2', q0, q1, -Int.natCast_add]
    by_cases q2 : (c.toNat : Int) = 123
    · rw [signN_one hm (by rw [show c.toNat = 123 from by omega]; decide)]
      simp [C_ref03_sign, hlen, hp1, hp2, hw, h2', q0, q1, q2, -Int.natCast_add]
    by_cases q3 : (c.toNat : Int) = 125
    · rw [signN_one hm (by rw [show c.toNat = 125 from by omega]; decide)]
      simp [C_ref03_sign, hlen, hp1, hp2, hw, h2', q0, q1, q2, q3, -Int.natCast_add]
    by_cases q4 : (c.toNat : Int) = 91
    · rw [signN_one hm (by rw [show c.toNat = 91 from by omega]; decide)]
      simp [C_ref03_sign, hlen, hp1, hp2, hw, h2', q0, q1, q2, q3, q4, -Int.natCast_add]
    by_cases q5 : (c.toNat : Int) = 93
    · rw [signN_one hm (by rw [show c.toNat = 93 from by omega]; decide)]
      simp [C_ref03_sign, hlen, hp1, hp2, hw, h2', q0, q1, q2, q3, q4, q5, -Int.natCast_add]
    by_cases q6 : (c.toNat : Int) = 44
    · rw [signN_one hm (by rw [show c.toNat = 44 from by omega]; decide)]
      simp [C_ref03_sign, hlen, hp1, hp2, hw, h2', q0, q1, q2, q3, q4, q5, q6, -Int.natCast_add]
    by_cases q7 : (c.toNat : Int) = 59
    · rw [signN_one hm (by rw [show c.toNat = 59 from by omega]; decide)]
      simp [C_ref03_sign, hlen, hp1, hp2, hw, h2', q0, q1, q2, q3, q4, q5, q6, q7, -Int.natCast_add]
    by_cases q8 : (c.toNat : Int) = 58
    · rw [signN_one hm (by rw [show c.toNat = 58 from by omega]; decide)]
      simp [C_ref03_sign, hlen, hp1, hp2, hw, h2', q0, q1, q2, q3, q4, q5, q6, q7, q8, -Int.natCast_add]
    by_cases q9 : (c.toNat : Int) = 46
    · rw [signN_one hm (by rw [show c.toNat = 46 from by omega]; decide)]
      simp [C_ref03_sign, hlen, hp1, hp2, hw, h2', q0, q1, q2, q3, q4, q5, q6, q7, q8, q9, -Int.natCast_add]
    by_cases q10 : (c.toNat : Int) = 61
    · rw [signN_one hm (by rw [show c.toNat = 61 from by omega]; decide)]
      simp [C_ref03_sign, hlen, hp1, hp2, hw, h2', q0, q1, q2, q3, q4, q5, q6, q7, q8, q9, q10, -Int.natCast_add]
    by_cases q11 : (c.toNat : Int) = 124
    · rw [signN_one hm (by rw [show c.toNat = 124 from by omega]; decide)]
      simp [C_ref03_sign, hlen, hp1, hp2, hw, h2', q0, q1, q2, q3, q4, q5, q6, q7, q8, q9, q10, q11, -Int.natCast_add]
    by_cases q12 : (c.toNat : Int) = 43
    · rw [signN_one hm (by rw [show c.toNat = 43 from by omega]; decide)]
      simp [C_ref03_sign, hlen, hp1, hp2, hw, h2', q0, q1, q2, q3, q4, q5, q6, q7, q8, q9, q10, q11, q12, -Int.natCast_add]
    by_cases q13 : (c.toNat : Int) = 45
    · rw [signN_one hm (by rw [show c.toNat = 45 from by omega]; decide)]
      simp [C_ref03_sign, hlen, hp1, hp2, hw, h2', q0, q1, q2, q3, q4, q5, q6, q7, q8, q9, q10, q11, q12, q13, -Int.natCast_add]
    by_cases q14 : (c.toNat : Int) = 42
    · rw [signN_one hm (by rw [show c.toNat = 42 from by omega]; decide)]
      simp [C_ref03_sign, hlen, hp1, hp2, hw, h2', q0, q1, q2, q3, q4, q5, q6, q7, q8, q9, q10, q11, q12, q13, q14, -Int.natCast_add]
    by_cases q15 : (c.toNat : Int) = 47
    · rw [signN_one hm (by rw [show c.toNat = 47 from by omega]; decide)]
      simp [C_ref03_sign, hlen, hp1, hp2, hw, h2', q0, q1, q2, q3, q4, q5, q6, q7, q8, q9, q10, q11, q12, q13, q14, q15, -Int.natCast_add]
    by_cases q16 : (c.toNat : Int) = 60
    · rw [signN_one hm (by rw [show c.toNat = 60 from by omega]; decide)]
      simp [C_ref03_sign, hlen, hp1, hp2, hw, h2', q0, q1, q2, q3, q4, q5, q6, q7, q8, q9, q10, q11, q12, q13, q14, q15, q16, -Int.natCast_add]
    by_cases q17 : (c.toNat : Int) = 94
    · rw [signN_one hm (by rw [show c.toNat = 94 from by omega]; decide)]
      simp [C_ref03_sign, hlen, hp1, hp2, hw, h2', q0, q1, q2, q3, q4, q5, q6, q7, q8, q9, q10, q11, q12, q13, q14, q15, q16, q17, -Int.natCast_add]
    rw [signN_none hm (by simp only [oneL, List.mem_cons, List.not_mem_nil, or_false, not_or]; refine ⟨?_, ?_, ?_, ?_, ?_, ?_, ?_, ?_, ?_, ?_, ?_, ?_, ?_, ?_, ?_, ?_, ?_, ?_⟩ <;> omega)]
    simp [C_ref03_sign, hlen, hp1, hp2, hw, h2', q0, q1, q2, q3, q4, q5, q6, q7, q8, q9, q10, q11, q12, q13, q14, q15, q16, q17, -Int.natCast_add]
end
end Go.Proofs.Eng
/- The reference of chapter 3, run by the engine: words. -/
set_option linter.unusedVariables false
set_option linter.unusedSimpArgs false
set_option maxRecDepth 100000
namespace Go.Proofs.Eng
open Go
section
variable {Γ : Sums} {A : Tab} {N : Nat → Nat}
def wordsC : List UInt8 := [32, 102, 117, 110, 32, 108, 101, 116, 32, 114, 101, 99, 32, 105, 110, 32, 105, 102, 32, 116, 104, 101, 110, 32, 101, 108, 115, 101, 32, 99, 97, 115, 101, 32, 111, 102, 32, 101, 110, 100, 32, 116, 114, 117, 101, 32, 102, 97, 108, 115, 101, 32, 105, 110, 116, 32, 98, 111, 111, 108, 32, 115, 116, 114, 32, 102, 108, 111, 97, 116, 32, 100, 121, 110, 32, 97, 110, 121, 32, 110, 111, 110, 101, 32, 116, 121, 112, 101, 32]
theorem wordsC_eq : (32 :: 102 :: 117 :: 110 :: 32 :: 108 :: 101 :: 116 :: 32 :: 114 :: 101 :: 99 :: 32 :: 105 :: 110 :: 32 :: 105 :: 102 :: 32 :: 116 :: 104 :: 101 :: 110 :: 32 :: 101 :: 108 :: 115 :: 101 :: 32 :: 99 :: 97 :: 115 :: 101 :: 32 :: 111 :: 102 :: 32 :: 101 :: 110 :: 100 :: 32 :: 116 :: 114 :: 117 :: 101 :: 32 :: 102 :: 97 :: 108 :: 115 :: 101 :: 32 :: 105 :: 110 :: 116 :: 32 :: 98 :: 111 :: 111 :: 108 :: 32 :: 115 :: 116 :: 114 :: 32 :: 102 :: 108 :: 111 :: 97 :: 116 :: 32 :: 100 :: 121 :: 110 :: 32 :: 97 :: 110 :: 121 :: 32 :: 110 :: 111 :: 110 :: 101 :: 32 :: 116 :: 121 :: 112 :: 101 :: 32 :: [] : List UInt8) = wordsC := by kernel_rfl
def az (c : UInt8) : Bool := decide (97 ≤ c.toNat) && decide (c.toNat ≤ 122)
theorem words_fwd (i n : Nat) (hi : i < 90) (hn : n < 90) (h1 : ((wordsC.drop (i + 1)).take n).all az = true) (h2 : (wordsC.drop (i + 1)).take n ≠ []) (h3 : (wordsC.drop i).take (n + 2) = 32 :: ((wordsC.drop (i + 1)).take n ++ [32])) : (wordsC.drop (i + 1)).take n ∈ wordsL := by
  have : (List.range 90).all (fun i => (List.range 90).all fun n => let s := (wordsC.drop (i + 1)).take n; !(s.all az && !s.isEmpty && (wordsC.drop i).take (n + 2) == 32 :: (s ++ [32])) || wordsL.contains s) = true := by decide +kernel
  rw [List.all_eq_true] at this
  have := this i (by simp; exact hi)
  rw [List.all_eq_true] at this
  have := this n (by simp; exact hn)
  have e : ((wordsC.drop (i + 1)).take n).isEmpty = false := by simpa using h2
  simp only [h1, e, h3, Bool.not_false, Bool.and_self, beq_self_eq_true, Bool.not_true, Bool.false_or, List.contains_iff_mem] at this
  exact this
theorem words_bwd {s : List UInt8} (h : s ∈ wordsL) : s.all az = true ∧ s ≠ [] ∧ ∃ i, i + s.length + 2 ≤ 89 ∧ (wordsC.drop i).take (s.length + 2) = 32 :: (s ++ [32]) := by
  have : ∀ s ∈ wordsL, s.all az = true ∧ s ≠ [] ∧ ((List.range 90).any fun i => decide (i + s.length + 2 ≤ 89) && (wordsC.drop i).take (s.length + 2) == 32 :: (s ++ [32])) = true := by decide +kernel
  obtain ⟨h1, h2, h3⟩ := this s h
  refine ⟨h1, h2, ?_⟩
  rw [List.any_eq_true] at h3
  obtain ⟨i, _, h4⟩ := h3
  rw [Bool.and_eq_true, decide_eq_true_eq, beq_iff_eq] at h4
  exact ⟨i, h4⟩
theorem words_iff {s : List UInt8} (h1 : s.all az = true) (h2 : s ≠ []) : (∃ i, i + s.length + 2 ≤ 89 ∧ (wordsC.drop i).take (s.length + 2) = 32 :: (s ++ [32])) ↔ s ∈ wordsL := by
  constructor
  · rintro ⟨i, hi, h3⟩
    have e : (wordsC.drop (i + 1)).take s.length = s := by
      have h4 := congrArg (fun l => (l.drop 1).take s.length) h3
      simpa [List.drop_take, List.take_take] using h4
    have := words_fwd i s.length (by omega) (by omega) (by rw [e]; exact h1) (by rw [e]; exact h2) (by rw [e]; exact h3)
    rwa [e] at this
  · intro h
    exact (words_bwd h).2.2

theorem ref03_IsWord_call (h : Ref03S Γ A N) (s : List UInt8) (hl : s.length < 2 ^ 36) (H : Hp) : (lim Γ A).call (f_ref03_IsWord N) [avStr s] H = some (avBool (isWordB s), none) := by
  apply h.isWord.call (by rfl)
  by_cases hne : s = []
  · subst hne
    simp [C_ref03_IsWord, isWordB]
    decide
  · have hne' : ¬ (s = []) := hne
    simp [C_ref03_IsWord, hne, -Int.natCast_add]
    refine wp_round (fun k ρ H' => H' = { l := H.l, d := none } ∧ ∃ i : Nat, ρ 0 = avStr s ∧ ρ 3 = avInt .i64 i ∧ i ≤ s.length ∧ (s.take i).all az = true ∧ k = s.length - i) (n := s.length) ⟨rfl, 0, rfl, rfl, by omega, by simp, rfl⟩ ?_
    rintro k ρ H' ⟨rfl, i, r0, r3, hi, ha, rfl⟩
    by_cases hlt : i < s.length
    · have hlt' : (i : Int) < s.length := by omega
      have hx := asidx_nat (k := .i64) hlt
      have hno : az s[i] = false → isWordB s = false := by
        intro hz
        unfold isWordB
        rw [decide_eq_false_iff_not]
        intro hm
        have := (words_bwd hm).1
        rw [List.all_eq_true] at this
        rw [this _ (List.getElem_mem hlt)] at hz
        cases hz
      have hgo : az s[i] = true → (s.take (i + 1)).all az = true := by
        intro hz
        rw [List.take_succ_eq_append_getElem hlt, List.all_append, ha]; simp [hz]
      generalize s[i] = c at *
      by_cases h97 : c.toNat < 97
      · have h97' : (c.toNat : Int) < 97 := by omega
        have hz := hno (by simp [az]; omega)
        simp [L_ref03_IsWord_1, r0, r3, hlt', hx, h97', hz]
      · have h97' : ¬ (c.toNat : Int) < 97 := by omega
        by_cases h122 : 122 < c.toNat
        · have h122' : (122 : Int) < c.toNat := by omega
          have hz := hno (by simp [az]; omega)
          simp [L_ref03_IsWord_1, r0, r3, hlt', hx, h97', h122', hz]
        · have h122' : ¬ (122 : Int) < c.toNat := by omega
          have hw : IntKind.wrap .i64 ((i : Int) + 1) = ((i + 1 : Nat) : Int) := by rw [wrap64 (by omega) (by omega)]; omega
          have hg := hgo (by simp [az]; omega)
          simp [L_ref03_IsWord_1, r0, r3, hlt', hx, h97', h122', hw, -Int.natCast_add]
          exact ⟨s.length - (i + 1), by omega, i + 1, rfl, by omega, List.all_eq_true.1 hg, rfl⟩
    · have hlt' : ¬ (i : Int) < s.length := by omega
      rw [List.take_of_length_le (by omega)] at ha
      have hiff := words_iff ha hne
      simp [L_ref03_IsWord_1, K_ref03_IsWord_1, r0, r3, hlt', -Int.natCast_add]
      refine wp_round (fun k ρ H' => H' = { l := H.l, d := none } ∧ ∃ j : Nat, ρ 0 = avStr s ∧ ρ 4 = avInt .i64 j ∧ j ≤ 90 ∧ (∀ i < j, ¬ (i + s.length + 2 ≤ 89 ∧ (wordsC.drop i).take (s.length + 2) = 32 :: (s ++ [32]))) ∧ k = 90 - j) (n := 90) ⟨rfl, 0, ?_, ?_, by omega, by omega, rfl⟩ ?_
      · simp [r0]
      · simp
      rintro k ρ H' ⟨rfl, j, r0, r4, hj, hn, rfl⟩
      have hw1 : IntKind.wrap .i64 ((j : Int) + (s.length : Int)) = ((j + s.length : Nat) : Int) := by rw [wrap64 (by omega) (by omega)]; omega
      have hw2 : IntKind.wrap .i64 (((j + s.length : Nat) : Int) + 2) = ((j + s.length + 2 : Nat) : Int) := by rw [wrap64 (by omega) (by omega)]; omega
      by_cases hle : j + s.length + 2 ≤ 89
      · have hle' : ((j + s.length + 2 : Nat) : Int) ≤ 89 := by omega
        have hcut : aslstr (avStr wordsC) (some (avInt .i64 (j : Int))) (some (avInt .i64 ((j + s.length + 2 : Nat) : Int))) = some (avStr ((wordsC.drop j).take (s.length + 2))) := by
          rw [aslstr_cut (by omega) (by omega) (by show _ ≤ 89; omega)]
          simp only [Int.toNat_natCast]
          rw [show j + s.length + 2 - j = s.length + 2 from by omega]
        have hadd1 := abin_strAdd (s := mkS [32]) (t := mkS s) (by simp; omega)
        have hadd2 := abin_strAdd (s := mkS ([32] ++ s)) (t := mkS [32]) (by simp; omega)
        simp only [bl_mkS, List.cons_append, List.nil_append] at hadd1 hadd2
        by_cases hm : (wordsC.drop j).take (s.length + 2) = 32 :: (s ++ [32])
        · have hmem : isWordB s = true := by simpa [isWordB] using hiff.1 ⟨j, hle, hm⟩
          rw [hm] at hcut
          simp [L_ref03_IsWord_2, wordsC_eq, r0, r4, hw1, hw2, hle', hcut, hadd1, hadd2, hmem, -Int.natCast_add]
        · have hw3 : IntKind.wrap .i64 ((j : Int) + 1) = ((j + 1 : Nat) : Int) := by rw [wrap64 (by omega) (by omega)]; omega
          generalize hgt : (wordsC.drop j).take (s.length + 2) = t at *
          simp [L_ref03_IsWord_2, wordsC_eq, r0, r4, hw1, hw2, hw3, hle', hcut, hadd1, hadd2, hm, -Int.natCast_add]
          refine ⟨90 - (j + 1), by omega, j + 1, rfl, by omega, ?_, rfl⟩
          intro i hi h1 h2
          have h1 : i + s.length + 2 ≤ 89 := by omega
          rcases Nat.lt_or_ge i j with h3 | h3
          · exact hn i h3 ⟨h1, h2⟩
          · have : i = j := by omega
            subst this
            rw [hgt] at h2
            exact hm h2
      · have hle' : ¬ ((j + s.length + 2 : Nat) : Int) ≤ 89 := by omega
        have hmem : isWordB s = false := by
          unfold isWordB
          rw [decide_eq_false_iff_not, ← hiff]
          rintro ⟨i, h1, h2⟩
          rcases Nat.lt_or_ge i j with h3 | h3
          · exact hn i h3 ⟨h1, h2⟩
          · omega
        simp [L_ref03_IsWord_2, K_ref03_IsWord_2, r0, r4, hw1, hw2, hle', hmem, -Int.natCast_add]
end
end Go.Proofs.Eng
/- The reference of chapter 4, run by the engine: tags and names. -/
set_option linter.unusedVariables false
set_option linter.unusedSimpArgs false
set_option maxRecDepth 100000
namespace Go.Proofs.Eng
open Go
section
variable {Γ : Sums} {A : Tab} {N : Nat → Nat}
/-- A name, or a word. -/
def tagB (s : List UInt8) : Bool := !s.isEmpty && (s.head?.map isLow).getD false && decide (runB isInName s = s.length)
theorem nameB_tag (s : List UInt8) : isNameB s = (tagB s && !isWordB s) := rfl
structure Ref04N (Γ : Sums) (A : Tab) (N : Nat → Nat) : Prop where
  tag : Has Γ A (f_ref04_Tag N) (C_ref04_Tag N)
  name : Has Γ A (f_ref04_Name N) (C_ref04_Name N)
theorem ref04_Tag_call (h : Ref04N Γ A N) (s : List UInt8) (hl : s.length < 2 ^ 40) (H : Hp) : (lim Γ A).call (f_ref04_Tag N) [avStr s] H = some (avBool (tagB s), none) := by
  apply h.tag.call (by rfl)
  simp [C_ref04_Tag, -Int.natCast_add]
  refine wp_round (fun k ρ H' => H' = { l := H.l, d := none } ∧ ∃ i : Nat, ρ 0 = avStr s ∧ ρ 3 = avInt .i64 i ∧ i ≤ s.length ∧ (s.take i).all isInName = true ∧ (0 < i → (s.head?.map isLow).getD false = true) ∧ k = s.length - i) (n := s.length) ⟨rfl, 0, rfl, rfl, by omega, by simp, by omega, rfl⟩ ?_
  rintro k ρ H' ⟨rfl, i, r0, r3, hi, ha, hp, rfl⟩
  have hrd := runB_drop isInName s i ha hi
  by_cases hlt : i < s.length
  · have hlt' : (i : Int) < s.length := by omega
    have hx := asidx_nat (k := .i64) hlt
    have hw : IntKind.wrap .i64 ((i : Int) + 1) = ((i + 1 : Nat) : Int) := by rw [wrap64 (by omega) (by omega)]; omega
    have hd : s.drop i = s[i] :: s.drop (i + 1) := List.drop_eq_getElem_cons hlt
    have hhd : i = 0 → (s.head?.map isLow).getD false = isLow s[i] := by
      rintro rfl
      simp [List.head?_eq_getElem?, List.getElem?_eq_getElem hlt]
    have stopN : isInName s[i] = false → tagB s = false := by
      intro hc
      unfold tagB
      have : runB isInName s = i := by rw [hrd, hd, runB_stop hc]; omega
      simp [this]; omega
    have stop0 : i = 0 → isLow s[i] = false → tagB s = false := by
      intro h0 hc
      unfold tagB
      rw [hhd h0, hc]; simp
    have go : isInName s[i] = true → (s.take (i + 1)).all isInName = true := by
      intro hz
      rw [List.take_succ_eq_append_getElem hlt, List.all_append, ha]; simp [hz]
    have gohd : (i = 0 → isLow s[i] = true) → (s.head?.map isLow).getD false = true := by
      intro hz
      by_cases h0 : i = 0
      · rw [hhd h0, hz h0]
      · exact hp (by omega)
    generalize s[i] = c at *
    have hlow : isLow c = (decide (97 ≤ c.toNat) && decide (c.toNat ≤ 122) || decide (c.toNat = 95)) := rfl
    have hnm : isInName c = (isLow c || (decide (48 ≤ c.toNat) && decide (c.toNat ≤ 57))) := rfl
    have step : isLow c = true ∨ (i ≠ 0 ∧ 48 ≤ c.toNat ∧ c.toNat ≤ 57) → isInName c = true ∧ (i = 0 → isLow c = true) := by
      rintro (h1 | ⟨h1, h2, h3⟩)
      · exact ⟨by rw [hnm, h1]; rfl, fun _ => h1⟩
      · exact ⟨by rw [hnm]; simp [h2, h3], fun h => absurd h h1⟩
    have fin : isLow c = true ∨ (i ≠ 0 ∧ 48 ≤ c.toNat ∧ c.toNat ≤ 57) → ∃ m, m < s.length - i ∧ ∃ i', avInt .i64 ((i + 1 : Nat) : Int) = avInt .i64 (i' : Nat) ∧ i' ≤ s.length ∧ (∀ x ∈ s.take i', isInName x = true) ∧ (0 < i' → (s.head?.map isLow).getD false = true) ∧ m = s.length - i' := by
      intro h1
      obtain ⟨h2, h3⟩ := step h1
      refine ⟨s.length - (i + 1), by omega, i + 1, rfl, by omega, List.all_eq_true.1 (go h2), fun _ => gohd h3, rfl⟩
    by_cases hlw : isLow c = true
    · have hlw2 := hlw
      rw [hlow] at hlw2
      by_cases h95 : c.toNat = 95
      · have a1 : ((c.toNat : Nat) : Int) = 95 := by omega
        simp [L_ref04_Tag_1, r0, r3, hlt', hx, a1, h95, hw, -Int.natCast_add]
        simpa using fin (.inl hlw)
      · have b1 : 97 ≤ c.toNat ∧ c.toNat ≤ 122 := by simpa [h95] using hlw2
        have a1 : (97 : Int) ≤ c.toNat := by omega
        have a2 : (c.toNat : Int) ≤ 122 := by omega
        simp [L_ref04_Tag_1, r0, r3, hlt', hx, a1, a2, b1.1, b1.2, hw, -Int.natCast_add]
        simpa using fin (.inl hlw)
    · have hlw' : isLow c = false := by simpa using hlw
      have hlw2 := hlw'
      rw [hlow] at hlw2
      have h95 : ¬ c.toNat = 95 := by intro h; simp [h] at hlw2
      have hno : ¬ (97 ≤ c.toNat ∧ c.toNat ≤ 122) := by rintro ⟨h1, h2⟩; simp [h1, h2] at hlw2
      have a1 : ¬ ((c.toNat : Nat) : Int) = 95 := by omega
      have key : ∀ (P : Prop), (97 ≤ c.toNat → ¬ c.toNat ≤ 122 → P) → (¬ 97 ≤ c.toNat → P) → P := fun P h1 h2 => by
        by_cases h : 97 ≤ c.toNat
        · exact h1 h fun h' => hno ⟨h, h'⟩
        · exact h2 h
      by_cases h0 : i = 0
      · have ht := stop0 h0 hlw'
        subst h0
        have hx0 : asidx (avStr s) (.lit (.int .i64 0)) = some (avByte c) := hx
        refine key _ (fun b1 b2 => ?_) (fun b1 => ?_)
        · have b1' : (97 : Int) ≤ c.toNat := by omega
          have b2' : ¬ (c.toNat : Int) ≤ 122 := by omega
          simp [L_ref04_Tag_1, r0, r3, hlt, hlt', hx0, a1, h95, b1, b2, b1', b2', ht]
        · have b1' : ¬ (97 : Int) ≤ c.toNat := by omega
          simp [L_ref04_Tag_1, r0, r3, hlt, hlt', hx0, a1, h95, b1, b1', ht]
      · have h0' : ¬ (i : Int) = 0 := by omega
        by_cases hdig : 48 ≤ c.toNat ∧ c.toNat ≤ 57
        · have b1 : ¬ 97 ≤ c.toNat := by omega
          have b1' : ¬ (97 : Int) ≤ c.toNat := by omega
          have c1 : ¬ (c.toNat : Int) < 48 := by omega
          have c2 : ¬ (57 : Int) < c.toNat := by omega
          have d1 : ¬ c.toNat < 48 := by omega
          have d2 : ¬ 57 < c.toNat := by omega
          simp [L_ref04_Tag_1, r0, r3, hlt', hx, a1, h95, b1, b1', h0, h0', c1, c2, d1, d2, hw, -Int.natCast_add]
          simpa using fin (.inr ⟨h0, hdig⟩)
        · have ht := stopN (by rw [hnm, hlw']; simp; omega)
          by_cases c1 : c.toNat < 48
          · have c1' : (c.toNat : Int) < 48 := by omega
            have b1 : ¬ 97 ≤ c.toNat := by omega
            have b1' : ¬ (97 : Int) ≤ c.toNat := by omega
            simp [L_ref04_Tag_1, r0, r3, hlt', hx, a1, h95, b1, b1', h0, h0', c1, c1', ht]
          · have c1' : ¬ (c.toNat : Int) < 48 := by omega
            have d1 : 57 < c.toNat := by omega
            have d1' : (57 : Int) < c.toNat := by omega
            refine key _ (fun b1 b2 => ?_) (fun b1 => ?_)
            · have b1' : (97 : Int) ≤ c.toNat := by omega
              have b2' : ¬ (c.toNat : Int) ≤ 122 := by omega
              simp [L_ref04_Tag_1, r0, r3, hlt', hx, a1, h95, b1, b2, b1', b2', h0, h0', c1, c1', d1, d1', ht]
            · have b1' : ¬ (97 : Int) ≤ c.toNat := by omega
              simp [L_ref04_Tag_1, r0, r3, hlt', hx, a1, h95, b1, b1', h0, h0', c1, c1', d1, d1', ht]
  · have hlt' : ¬ (i : Int) < s.length := by omega
    have hi2 : i = s.length := by omega
    have hrun : runB isInName s = s.length := by rw [hrd, List.drop_of_length_le (by omega)]; simp [runB]; omega
    have ht : tagB s = !decide (s = []) := by
      unfold tagB
      rw [hrun]
      cases s with
      | nil => rfl
      | cons a r => rw [hp (by simp at hi2; omega)]; simp
    simp [L_ref04_Tag_1, K_ref04_Tag_1, r0, r3, hlt', ht]
    cases s <;> simp
theorem ref04_Name_call (h : Ref04N Γ A N) (h3 : Ref03S Γ A N) (s : List UInt8) (hl : s.length < 2 ^ 36) (H : Hp) : (lim Γ A).call (f_ref04_Name N) [avStr s] H = some (avBool (isNameB s), none) := by
  have e1 := fun H => ref04_Tag_call h s (by omega) H
  have e2 := fun H => ref03_IsWord_call h3 s hl H
  rw [nameB_tag]
  apply h.name.call (by rfl)
  cases ht : tagB s
  · simp [C_ref04_Name, e1, ht]
  · simp [C_ref04_Name, e1, e2, ht]
end
end Go.Proofs.Eng
