/- Seat 2: what its table holds; the summaries; the law's lives. -/
import Derived.Test.YtchbifaiofljdaaTabA2s
import Derived.Test.YtchbifaiofljdaaM35
import Derived.Test.YtchbifaiofljdaaEngAG
set_option linter.unusedVariables false
set_option maxRecDepth 100000
namespace Go.Proofs.Y2s
open Go Go.Proofs.Eng
def fIB : FuncId := f_internal_bytealg_IndexByteString nm
def fFB : FuncId := f_math_Float64frombits nm
def gam : Sums := gOr (gIndexByte fIB) (gFromBits fFB)
theorem has {f : FuncId} {fn : AFunc} (h : tab f = some fn) (h1 : (f == fIB) = false) (h2 : (f == fFB) = false) : Has gam tab f fn := by
  refine ⟨h, fun args H => ?_⟩
  have e1 : f ≠ fIB := by simpa using h1
  have e2 : f ≠ fFB := by simpa using h2
  simp [gam, gOr, gIndexByte, gFromBits, e1, e2]
theorem hasR {f : FuncId} {fn : AFunc} (h : tab f = some fn) (hk : (f == fIB || f == fFB) = false) : Has gam tab f fn := by
  rw [Bool.or_eq_false_iff] at hk
  exact has h hk.1 hk.2
theorem fib_ne : fFB ≠ fIB := by
  have : (fFB == fIB) = false := by kernel_rfl
  simpa using this
theorem hasS : LexS gam tab nm := ⟨hasR tab_lexer_low (by kernel_rfl), hasR tab_lexer_high (by kernel_rfl), hasR tab_lexer_digit (by kernel_rfl), hasR tab_lexer_inName (by kernel_rfl), hasR tab_lexer_inAlias (by kernel_rfl), hasR tab_lexer_blank_1 (by kernel_rfl), hasR tab_lexer_run (by kernel_rfl), hasR tab_lexer_words (by kernel_rfl), hasR tab_lexer_signs (by kernel_rfl),
  hasR tab_slices_Contains_sl_string_string (by kernel_rfl), hasR tab_slices_Index_sl_string_string (by kernel_rfl), hasR tab_lexer_IsWord (by kernel_rfl), hasR tab_lexer_IsName (by kernel_rfl), hasR tab_lexer_number (by kernel_rfl)⟩
theorem hasSt : StoreS gam tab nm := ⟨hasS, hasR tab_slices_Clone_sl_byte_byte (by kernel_rfl), hasR tab_store_New (by kernel_rfl), hasR tab_p_store_Store_Set (by kernel_rfl), hasR tab_p_store_Store_Delete (by kernel_rfl)⟩
theorem hasFull : Has gam tab (f_law23_StoreFull nm) (C_law23_StoreFull nm) := hasR tab_law23_StoreFull (by kernel_rfl)
theorem lives_23 : (lim gam tab).call (f_law23_lives nm) [] { l := [], d := none } = some (avBool true, none) := lim_of_env (n := 60) (isT_spec (by kernel_rfl))
theorem law_full (n : Int) (w : (Lit.int .u8 n).wf = true) : ∃ r, (lim gam tab).ent (f_law23_StoreFull nm) [.lit (.int .u8 n)] { l := [], d := none } = some r ∧ r.1 = avBool true := by
  have hw : 0 ≤ n ∧ n < 256 := by
    simp [Lit.wf, IntKind.min, IntKind.max, IntKind.signed, IntKind.bits] at w
    omega
  have := law_StoreFull hasSt hasFull lives_23 n.toNat (by omega)
  rw [show ((n.toNat : Nat) : Int) = n from by omega] at this
  exact this
theorem gamok : GOK Try.prog gam := gOr_ok (indexByte_ok (f0 := fIB) (fn := Try.f85) Try.func85 (by kernel_rfl) (by kernel_rfl) (by rfl) (by rfl)) (fromBits_ok (f0 := fFB) (fn := Try.f100) Try.func100 (by kernel_rfl) (by kernel_rfl) (by rfl) (by rfl))
end Go.Proofs.Y2s
