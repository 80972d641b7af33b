/- Seat 4: what its table holds; the summaries; the law's lives. -/
import Derived.Test.YtfokealcfobnnaaGreatTabA4z
import Derived.Test.YtfokealcfobnnaaGreatEngAG
set_option linter.unusedVariables false
set_option maxRecDepth 100000
namespace Go.Proofs.Y4z
open Go Go.Proofs.Eng
def fIB : FuncId := f_internal_bytealg_IndexByteString nm
def fFB : FuncId := f_math_Float64frombits nm
def gam : Sums := gOr (gIndexByte fIB) (gFromBits fFB)
theorem has {f : FuncId} {fn : AFunc} (h : tab f = some fn) (h1 : (f == fIB) = false) (h2 : (f == fFB) = false) : Has gam tab f fn := by
  refine ⟨h, fun args H => ?_⟩
  have e1 : f ≠ fIB := by simpa using h1
  have e2 : f ≠ fFB := by simpa using h2
  simp [gam, gOr, gIndexByte, gFromBits, e1, e2]
theorem hasR {f : FuncId} {fn : AFunc} (h : tab f = some fn) (hk : (f == fIB || f == fFB) = false) : Has gam tab f fn := by
  rw [Bool.or_eq_false_iff] at hk
  exact has h hk.1 hk.2
theorem lives_14 : (lim gam tab).call (f_law14_lives nm) [] { l := [], d := none } = some (avBool true, none) := lim_of_env (n := 60) (isT_spec (by kernel_rfl))
theorem gamok : GOK Tryz.prog gam := gOr_ok (indexByte_ok (f0 := fIB) (fn := Tryz.f145) Tryz.func145 (by kernel_rfl) (by kernel_rfl) (by rfl) (by rfl)) (fromBits_ok (f0 := fFB) (fn := Tryz.f118) Tryz.func118 (by kernel_rfl) (by kernel_rfl) (by rfl) (by rfl))
def heapOf : Option (AV × Option Hp) → Hp
  | some (_, some h) => h
  | _ => ⟨[], none⟩
def Hn : Hp := heapOf ((env gam tab 20).call (f_p_arena_Arena_Var nm) [.ptr 0 0, avInt .i64 1] (heapOf ((env gam tab 20).call (f_arena_New nm) [avInt .i64 9] ⟨[], none⟩)))
def Hm : Hp := heapOf ((env gam tab 20).call (f_arena_New nm) [avInt .i64 9] ⟨[], none⟩)
theorem new_9 : (lim gam tab).call (f_arena_New nm) [avInt .i64 9] { l := [], d := none } = some (.tup [.ptr 0 0, avInt .i64 0], some Hm) := lim_of_env (n := 20) (by kernel_rfl)
theorem var_1 : (lim gam tab).call (f_p_arena_Arena_Var nm) [.ptr 0 0, avInt .i64 1] Hm = some (.tup [avInt .i64 0, avInt .i64 0], some Hn) := lim_of_env (n := 20) (by kernel_rfl)
theorem len_1 : (lim gam tab).call (f_p_arena_Arena_Len nm) [.ptr 0 0] Hn = some (avInt .i64 1, none) := lim_of_env (n := 20) (by kernel_rfl)
theorem fresh_nil (H : Hp) : (lim gam tab).call (f_lift_Fresh nm) [.lit (.pointer none), avInt .i64 0, avInt .i64 0, avInt .i64 0] H = some (.tup [avInt .i64 0, avInt .i64 1], none) := lim_of_env (n := 20) (by kernel_rfl)
theorem reach_nil (H : Hp) : (lim gam tab).call (f_lift_Reach nm) [.lit (.pointer none), avInt .i64 0, avInt .i64 0] H = some (.lit (.slice none 0 0), none) := lim_of_env (n := 20) (by kernel_rfl)
theorem free_nil (H : Hp) : (lim gam tab).call (f_lift_Free nm) [.lit (.pointer none), avInt .i64 0, avInt .i64 0] H = some (avInt .i64 0, none) := lim_of_env (n := 20) (by kernel_rfl)
theorem reach_9 : (lim gam tab).call (f_lift_Reach nm) [.ptr 0 0, avInt .i64 9, avInt .i64 0] Hn = some (.lit (.slice none 0 0), none) := lim_of_env (n := 20) (by kernel_rfl)
def Hq (a n : Nat) : Hp := heapOf ((env gam tab 30).call (f_lift_Fresh nm) [.ptr 0 0, avInt .i64 0, avInt .i64 (Int.ofNat a), avInt .i64 (Int.ofNat n)] Hn)
theorem fresh_0 (n : Nat) : (lim gam tab).call (f_lift_Fresh nm) [.ptr 0 0, avInt .i64 0, avInt .i64 (Int.ofNat 0), avInt .i64 (Int.ofNat n)] Hn = some (.tup [avInt .i64 1, avInt .i64 0], some (Hq 0 n)) := lim_of_env (n := 30) (by kernel_rfl)
theorem reach_9' (n : Nat) : (lim gam tab).call (f_lift_Reach nm) [.ptr 0 0, avInt .i64 9, avInt .i64 0] (Hq 0 n) = some (.lit (.slice none 0 0), none) := lim_of_env (n := 20) (by kernel_rfl)
end Go.Proofs.Y4z
