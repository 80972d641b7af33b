/- The law LiftRefuses, run by the engine. -/
import Derived.Test.YtfokealcfobnnaaGreatM34
import Derived.Test.YtfokealcfobnnaaGreatM35
import Derived.Test.YtfokealcfobnnaaGreatSA4z
set_option linter.unusedVariables false
set_option linter.unusedSimpArgs false
set_option maxRecDepth 100000
namespace Go.Proofs.Y4z
open Go Go.Proofs.Eng
theorem hasFresh : Has gam tab (f_lift_Fresh nm) (C_lift_Fresh nm) := hasR tab_lift_Fresh (by kernel_rfl)
theorem hasPart : Has gam tab (f_p_lift_maker_part nm) (C_p_lift_maker_part nm) := hasR tab_p_lift_maker_part (by kernel_rfl)
theorem hasRefuses : Has gam tab (f_law14_LiftRefuses nm) (C_law14_LiftRefuses nm) := hasR tab_law14_LiftRefuses (by kernel_rfl)

theorem fresh_bad (i above level : Int) (h : i ≠ 0 ∨ above < 0 ∨ level < 0) : (lim gam tab).call (f_lift_Fresh nm) [.ptr 0 0, avInt .i64 i, avInt .i64 above, avInt .i64 level] Hn = some (.tup [avInt .i64 0, avInt .i64 1], none) := by
  have hl := len_1
  have hl' : (lim gam tab).call (f_p_arena_Arena_Len nm) [.ptr 0 0] { l := Hn.l, d := none } = some (avInt .i64 1, none) := lim_of_env (n := 20) (by kernel_rfl)
  apply hasFresh.call (by rfl)
  by_cases h1 : i < 0
  · simp [C_lift_Fresh, hl', h1]
  · by_cases h2 : 1 ≤ i
    · simp [C_lift_Fresh, hl', h1, h2]
    · by_cases h3 : above < 0
      · simp [C_lift_Fresh, hl', h1, h2, h3]
      · have h4 : level < 0 := by omega
        simp [C_lift_Fresh, hl', h1, h2, h3, h4]
theorem level_g (x y : AV) : (lim gam tab).call (f_p_arena_Arena_Level nm) [.ptr 0 0, avInt .i64 0] { l := (halloc (halloc { l := Hn.l, d := none } (.map [] 0)) (.cells [.ptr 0 0, x, y, .map Hn.l.length] (t_lift_maker nm))).l, d := none } = some (avInt .i64 1, none) := lim_of_env (n := 20) (by kernel_rfl)
theorem part_up (a n : Nat) : (lim gam tab).call (f_p_lift_maker_part nm) [.ptr (Hn.l.length + 1) 0, avInt .i64 0] (halloc (halloc { l := Hn.l, d := none } (.map [] 0)) (.cells [.ptr 0 0, .lit (.int .i64 ((a : Int) + 1)), .lit (.int .i64 n), .map Hn.l.length] (t_lift_maker nm))) = some (.tup [avInt .i64 0, avInt .i64 0], none) := by
  have hl := level_g (.lit (.int .i64 ((a : Int) + 1))) (.lit (.int .i64 n))
  have h1 : (1 : Int) ≤ (a : Int) + 1 := by omega
  apply hasPart.call (by rfl)
  have hg : hget { l := (halloc (halloc { l := Hn.l, d := none } (.map [] 0)) (.cells [.ptr 0 0, .lit (.int .i64 ((a : Int) + 1)), .lit (.int .i64 n), .map Hn.l.length] (t_lift_maker nm))).l, d := none } (Hn.l.length + 1) = some (.cells [.ptr 0 0, .lit (.int .i64 ((a : Int) + 1)), .lit (.int .i64 n), .map Hn.l.length] (t_lift_maker nm)) := by
    rw [hget_l]; simp
  simp [C_p_lift_maker_part, hg, hl, h1, settle]
theorem fresh_up (a n : Nat) : (lim gam tab).call (f_lift_Fresh nm) [.ptr 0 0, avInt .i64 0, avInt .i64 (Int.ofNat (a + 1)), avInt .i64 (Int.ofNat n)] Hn = some (.tup [avInt .i64 0, avInt .i64 0], none) := by
  have hl' : (lim gam tab).call (f_p_arena_Arena_Len nm) [.ptr 0 0] { l := Hn.l, d := none } = some (avInt .i64 1, none) := lim_of_env (n := 20) (by kernel_rfl)
  have h3 : ¬ (a : Int) + 1 < 0 := by omega
  have h4 : ¬ (n : Int) < 0 := by omega
  have hp := part_up a n
  have hk := settle_keeps (H := Hn) (v := .tup [avInt .i64 0, avInt .i64 0]) (((Loc.start Hn).alloc (.map [] 0)).alloc (.cells [.ptr 0 0, .lit (.int .i64 ((a : Int) + 1)), .lit (.int .i64 n), .map Hn.l.length] (t_lift_maker nm))).keeps (by simp)
  apply hasFresh.call (by rfl)
  simp [C_lift_Fresh, hl', h3, h4, hp, hk]

theorem law_refuses (i above level : Int) : ∃ r, (lim gam tab).ent (f_law14_LiftRefuses nm) [avInt .i64 i, avInt .i64 above, avInt .i64 level] { l := [], d := none } = some r ∧ r.1 = avBool true := by
  have w0 : IntKind.i64.wrap 0 = 0 := by decide
  apply hasRefuses.entP (by rfl)
  by_cases hb : i ≠ 0 ∨ above < 0 ∨ level < 0
  · have hf := fresh_bad i above level hb
    by_cases h1 : i = 0
    · subst h1
      by_cases h2 : above < 0
      · simp [C_law14_LiftRefuses, w0, lives_14, new_9, var_1, hf, fresh_nil, reach_nil, free_nil, reach_9, h2]
      · have h3 : level < 0 := by omega
        simp [C_law14_LiftRefuses, w0, lives_14, new_9, var_1, hf, fresh_nil, reach_nil, free_nil, reach_9, h2, h3]
    · simp [C_law14_LiftRefuses, w0, lives_14, new_9, var_1, hf, fresh_nil, reach_nil, free_nil, reach_9, h1]
  · have hi : i = 0 := Classical.byContradiction fun h => hb (.inl h)
    have ha : ¬ above < 0 := fun h => hb (.inr (.inl h))
    have hl : ¬ level < 0 := fun h => hb (.inr (.inr h))
    subst hi
    obtain ⟨a, rfl⟩ := Int.eq_ofNat_of_zero_le (Int.not_lt.1 ha)
    obtain ⟨n, rfl⟩ := Int.eq_ofNat_of_zero_le (Int.not_lt.1 hl)
    cases a with
    | zero =>
      have hf : (lim gam tab).call (f_lift_Fresh nm) [.ptr 0 0, avInt .i64 0, avInt .i64 0, avInt .i64 (n : Int)] Hn = some (.tup [avInt .i64 1, avInt .i64 0], some (Hq 0 n)) := fresh_0 n
      have hr := reach_9' n
      simp [C_law14_LiftRefuses, w0, lives_14, new_9, var_1, hf, fresh_nil, reach_nil, free_nil, hr, hl]
    | succ a =>
      have hf := fresh_up a n
      simp only [Int.ofNat_eq_natCast] at hf
      simp [C_law14_LiftRefuses, w0, lives_14, new_9, var_1, hf, fresh_nil, reach_nil, free_nil, reach_9, ha, hl, -Int.natCast_add]
end Go.Proofs.Y4z
