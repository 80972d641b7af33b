import Derived.Test.YtfokealcfobnnaaM32
import Derived.Test.YtfokealcfobnnaaEngZ
import Derived.Test.YtfokealcfobnnaaM34
/- Texts: places, cuts; what the library's functions of texts tell, run by the engine. -/
set_option linter.unusedVariables false
set_option linter.unusedSimpArgs false
set_option maxRecDepth 100000
namespace Go.Proofs.Eng
open Go
section
variable {Γ : Sums} {A : Tab} {N : Nat → Nat}

@[simp] theorem resR_inr_inl {t u : Nat} {l : Option Nat} {ρ : Rho} {H : Hp} : resR [.inr (t, l), .inl u] ρ H = (aload H l (ρ t)).map fun a => .tup [a, ρ u] := by
  simp [resR, resOneR, List.mapM_cons]
  cases aload H l (ρ t) <;> rfl
@[simp] theorem resR_inl_inr {t u : Nat} {m : Option Nat} {ρ : Rho} {H : Hp} : resR [.inl t, .inr (u, m)] ρ H = (aload H m (ρ u)).map fun b => .tup [ρ t, b] := by
  simp [resR, resOneR, List.mapM_cons]
  cases aload H m (ρ u) <;> rfl
@[simp] theorem loadC3 {a b c : AV} : loadC (some 3) [a, b, c] = some (.agg [a, b, c]) := by simp [loadC]
@[simp] theorem loadC_one {a : AV} : loadC none [a] = some a := by simp [loadC]
/-- A call that wrote a cell of its own alone. -/
theorem settle_cell {H : Hp} {o o2 : AObj} {v : AV} (hu : v.under H.l.length = true) : settle H v (hset (halloc { l := H.l, d := none } o) H.l.length (some o2)) = (v, none) :=
  settle_keeps ((((Loc.start H).alloc o).set o2).keeps) hu
@[simp] theorem abin_geqB {c : UInt8} {n : Int} : abin .geq (avByte c) (.lit (.int .u8 n)) = some (avBool (decide (n ≤ c.toNat))) := by simp [avByte]
@[simp] theorem abin_leqB {c : UInt8} {n : Int} : abin .leq (avByte c) (.lit (.int .u8 n)) = some (avBool (decide ((c.toNat : Int) ≤ n))) := by simp [avByte]
@[simp] theorem abin_lssB {c : UInt8} {n : Int} : abin .lss (avByte c) (.lit (.int .u8 n)) = some (avBool (decide ((c.toNat : Int) < n))) := by simp [avByte]
@[simp] theorem abin_gtrB {c : UInt8} {n : Int} : abin .gtr (avByte c) (.lit (.int .u8 n)) = some (avBool (decide (n < (c.toNat : Int)))) := by simp [avByte]
@[simp] theorem aeq_byte {c : UInt8} {n : Int} : aeq .pint (avByte c) (.lit (.int .u8 n)) = some (decide ((c.toNat : Int) = n)) := by simp [avByte]
theorem asidx_str {k : IntKind} {s : List UInt8} {i : Int} (h0 : 0 ≤ i) (h : i.toNat < s.length) : asidx (avStr s) (.lit (.int k i)) = some (avByte s[i.toNat]) := by
  simp [asidx, h0, List.getElem?_eq_getElem h, avByte]
theorem asidx_nat {k : IntKind} {s : List UInt8} {i : Nat} (h : i < s.length) : asidx (avStr s) (.lit (.int k i)) = some (avByte s[i]) := by
  have := asidx_str (k := k) (s := s) (i := (i : Int)) (by omega) (by simpa using h)
  simpa using this
theorem aslstr_from {k : IntKind} {s : List UInt8} {i : Int} (h0 : 0 ≤ i) (h : i.toNat ≤ s.length) : aslstr (avStr s) (some (.lit (.int k i))) none = some (avStr (s.drop i.toNat)) := by
  have h1 : i ≤ (s.length : Int) := by omega
  simp [aslstr, aBound, h0, h1]
  rw [List.take_of_length_le (by simp)]
theorem aslstr_upto {k : IntKind} {s : List UInt8} {j : Int} (h0 : 0 ≤ j) (h : j.toNat ≤ s.length) : aslstr (avStr s) none (some (.lit (.int k j))) = some (avStr (s.take j.toNat)) := by
  have h1 : j ≤ (s.length : Int) := by omega
  simp [aslstr, aBound, h0, h1]
theorem aslstr_cut {k k' : IntKind} {s : List UInt8} {i j : Int} (h0 : 0 ≤ i) (h1 : i ≤ j) (h : j.toNat ≤ s.length) : aslstr (avStr s) (some (.lit (.int k i))) (some (.lit (.int k' j))) = some (avStr ((s.drop i.toNat).take (j.toNat - i.toNat))) := by
  have h2 : i ≤ max j 0 := by omega
  have h3 : 0 ≤ j := by omega
  have h4 : j ≤ (s.length : Int) := by omega
  simp [aslstr, aBound, h0, h2, h3, h4]

theorem settleZ_ra {H H1 : Hp} {es : List AV} {t : TypeId} {m : Nat} (h1 : H1 = halloc { l := H.l, d := none } (.arr 1 es t)) (hm : m = es.length) (hl : ∀ x ∈ es, ∃ v, x = .lit v) :
    settleZ true H (.ra 1 H.l.length 0 m) H1 = (.sl 1 es, none) := by
  subst h1; subst hm
  apply settleZ_frz
  · simp [keeps]
  · rw [frz_ra (es := es) (t := t) (by simp) (by simp) (by simp), List.drop_zero, List.take_length, frz_lits hl]
    rfl

/-! ### HasPrefix, CutPrefix, IndexByte -/
structure Strs (Γ : Sums) (A : Tab) (N : Nat → Nat) : Prop where
  has : Has Γ A (f_strings_HasPrefix N) (C_strings_HasPrefix N)
  has' : Has Γ A (f_internal_stringslite_HasPrefix N) (C_internal_stringslite_HasPrefix N)

theorem slite_HasPrefix_call (h : Has Γ A (f_internal_stringslite_HasPrefix N) (C_internal_stringslite_HasPrefix N)) (s t : List UInt8) (H : Hp) :
    (lim Γ A).call (f_internal_stringslite_HasPrefix N) [avStr s, avStr t] H = some (avBool (t.isPrefixOf s), none) := by
  apply h.call (by rfl)
  by_cases hl : t.length ≤ s.length
  · have hl' : (t.length : Int) ≤ s.length := by omega
    have e := aslstr_upto (k := .i64) (s := s) (j := (t.length : Int)) (by omega) (by simpa using hl)
    simp only [Int.toNat_natCast] at e
    by_cases he : s.take t.length = t
    · have hp : t.isPrefixOf s = true := by rw [List.isPrefixOf_iff_prefix, List.prefix_iff_eq_take]; exact he.symm
      simp [C_internal_stringslite_HasPrefix, hl', hl, e, he, hp]
    · have hp : t.isPrefixOf s = false := by
        rw [Bool.eq_false_iff]
        intro hp
        rw [List.isPrefixOf_iff_prefix, List.prefix_iff_eq_take] at hp
        exact he hp.symm
      simp [C_internal_stringslite_HasPrefix, hl', hl, e, he, hp]
  · have hl' : ¬ (t.length : Int) ≤ s.length := by omega
    have hp : t.isPrefixOf s = false := by
      rw [Bool.eq_false_iff]
      intro hp
      exact hl (List.isPrefixOf_iff_prefix.1 hp).length_le
    simp [C_internal_stringslite_HasPrefix, hl', hl, hp]
theorem HasPrefix_call (h : Strs Γ A N) (s t : List UInt8) (H : Hp) : (lim Γ A).call (f_strings_HasPrefix N) [avStr s, avStr t] H = some (avBool (t.isPrefixOf s), none) := by
  apply h.has.call (by rfl)
  simp [C_strings_HasPrefix, slite_HasPrefix_call h.has']
end
end Go.Proofs.Eng
/- The law SolveNone, run by the engine. -/
set_option linter.unusedVariables false
set_option linter.unusedSimpArgs false
set_option maxRecDepth 100000
namespace Go.Proofs.Eng
open Go
section
variable {Γ : Sums} {A : Tab} {N : Nat → Nat}
@[simp] theorem aeq_nilp : aeq .pptr (.lit (.pointer none)) (.lit (.pointer none)) = some true := _root_.id rfl
theorem solve_New_nil (h : Has Γ A (f_solve_New N) (C_solve_New N)) (H : Hp) : (lim Γ A).call (f_solve_New N) [.lit (.pointer none)] H = some (.lit (.pointer none), none) := by
  apply h.call (by rfl)
  simp [C_solve_New]
theorem solve_Claim_nil (h : Has Γ A (f_p_solve_Solver_Claim N) (C_p_solve_Solver_Claim N)) (i j : Int) (H : Hp) : (lim Γ A).call (f_p_solve_Solver_Claim N) [.lit (.pointer none), avInt .i64 i, avInt .i64 j] H = some (avInt .i64 1, none) := by
  apply h.call (by rfl)
  simp [C_p_solve_Solver_Claim]
theorem solve_Claims_nil (h : Has Γ A (f_p_solve_Solver_Claims N) (C_p_solve_Solver_Claims N)) (H : Hp) : (lim Γ A).call (f_p_solve_Solver_Claims N) [.lit (.pointer none)] H = some (avInt .i64 0, none) := by
  apply h.call (by rfl)
  simp [C_p_solve_Solver_Claims]
theorem solve_Clash_nil (h : Has Γ A (f_p_solve_Solver_Clash N) (C_p_solve_Solver_Clash N)) (H : Hp) : (lim Γ A).call (f_p_solve_Solver_Clash N) [.lit (.pointer none)] H = some (.tup [avInt .i64 0, avInt .i64 0, avBool false], none) := by
  apply h.call (by rfl)
  simp [C_p_solve_Solver_Clash]
theorem law_SolveNone (h1 : Has Γ A (f_solve_New N) (C_solve_New N)) (h2 : Has Γ A (f_p_solve_Solver_Claim N) (C_p_solve_Solver_Claim N)) (h3 : Has Γ A (f_p_solve_Solver_Claims N) (C_p_solve_Solver_Claims N)) (h4 : Has Γ A (f_p_solve_Solver_Clash N) (C_p_solve_Solver_Clash N))
    (h : Has Γ A (f_law13_SolveNone N) (C_law13_SolveNone N)) (hlives : (lim Γ A).call (f_law13_lives N) [] { l := [], d := none } = some (avBool true, none)) (i j : Int) : ∃ r, (lim Γ A).ent (f_law13_SolveNone N) [avInt .i64 i, avInt .i64 j] { l := [], d := none } = some r ∧ r.1 = avBool true := by
  apply h.entP (by rfl)
  simp [C_law13_SolveNone, hlives, solve_New_nil h1, solve_Claim_nil h2, solve_Claims_nil h3, solve_Clash_nil h4]
end
end Go.Proofs.Eng
