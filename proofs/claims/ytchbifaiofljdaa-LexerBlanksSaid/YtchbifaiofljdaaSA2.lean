/- Seat 2: what its table holds; the summaries; the law's lives. -/
import Derived.Test.YtchbifaiofljdaaTabA2
import Derived.Test.YtchbifaiofljdaaM36
import Derived.Test.YtchbifaiofljdaaEngAG
set_option linter.unusedVariables false
set_option maxRecDepth 100000
namespace Go.Proofs.Y2
open Go Go.Proofs.Eng
def fIB : FuncId := f_internal_bytealg_IndexByteString nm
def fFB : FuncId := f_math_Float64frombits nm
def gam : Sums := gOr (gIndexByte fIB) (gFromBits fFB)
theorem has {f : FuncId} {fn : AFunc} (h : tab f = some fn) (h1 : (f == fIB) = false) (h2 : (f == fFB) = false) : Has gam tab f fn := by
  refine ⟨h, fun args H => ?_⟩
  have e1 : f ≠ fIB := by simpa using h1
  have e2 : f ≠ fFB := by simpa using h2
  simp [gam, gOr, gIndexByte, gFromBits, e1, e2]
theorem hasR {f : FuncId} {fn : AFunc} (h : tab f = some fn) (hk : (f == fIB || f == fFB) = false) : Has gam tab f fn := by
  rw [Bool.or_eq_false_iff] at hk
  exact has h hk.1 hk.2
theorem idxS (s : List UInt8) (c : UInt8) (H : Hp) : (lim gam tab).call fIB [avStr s, avByte c] H = some (avInt .i64 (idxOf (mkS s) c.toNat), none) := by
  rw [lim_call_eq]
  simp [gam, gOr, gIndexByte, avByte]
theorem fib_ne : fFB ≠ fIB := by
  have : (fFB == fIB) = false := by kernel_rfl
  simpa using this
theorem bits (n : Int) (H : Hp) : (lim gam tab).call fFB [avInt .u64 n] H = some (.lit (.float .f64 n.toNat), none) := by
  rw [lim_call_eq]
  simp [gam, gOr, gIndexByte, gFromBits, fib_ne]
theorem hasS : LexS gam tab nm := ⟨hasR tab_lexer_low (by kernel_rfl), hasR tab_lexer_high (by kernel_rfl), hasR tab_lexer_digit (by kernel_rfl), hasR tab_lexer_inName (by kernel_rfl), hasR tab_lexer_inAlias (by kernel_rfl), hasR tab_lexer_blank_1 (by kernel_rfl), hasR tab_lexer_run (by kernel_rfl), hasR tab_lexer_words (by kernel_rfl), hasR tab_lexer_signs (by kernel_rfl),
  hasR tab_slices_Contains_sl_string_string (by kernel_rfl), hasR tab_slices_Index_sl_string_string (by kernel_rfl), hasR tab_lexer_IsWord (by kernel_rfl), hasR tab_lexer_IsName (by kernel_rfl), hasR tab_lexer_number (by kernel_rfl)⟩
theorem hasT : LexT gam tab nm := ⟨⟨hasR tab_strings_HasPrefix (by kernel_rfl), hasR tab_internal_stringslite_HasPrefix (by kernel_rfl)⟩, hasR tab_strings_CutPrefix (by kernel_rfl), hasR tab_internal_stringslite_CutPrefix (by kernel_rfl), hasR tab_strings_IndexByte (by kernel_rfl), hasR tab_internal_stringslite_IndexByte (by kernel_rfl), idxS, bits,
  hasR tab_floats_Of (by kernel_rfl), hasR tab_floats_Parse (by kernel_rfl), hasR tab_lexer_float (by kernel_rfl), hasR tab_lexer_text (by kernel_rfl), hasR tab_lexer_blank (by kernel_rfl)⟩
theorem hasO : LexO gam tab nm := ⟨hasS, hasT, hasR tab_lexer_one (by kernel_rfl)⟩
theorem hasA : LexA gam tab nm := ⟨hasO, ⟨hasR tab_runes_size (by kernel_rfl), hasR tab_runes_sign (by kernel_rfl), hasR tab_runes_first (by kernel_rfl), hasR tab_runes_All (by kernel_rfl), hasR tab_runes_All_1 (by kernel_rfl)⟩, hasR tab_runes_Bad (by kernel_rfl), hasR tab_lexer_Lex (by kernel_rfl)⟩
theorem hasR1 : Ref01 gam tab nm := ⟨hasR tab_ref01_value (by kernel_rfl), hasR tab_ref01_Encode (by kernel_rfl), hasR tab_ref01_First (by kernel_rfl), hasR tab_ref01_Signs (by kernel_rfl)⟩
theorem hasR3 : Ref03A gam tab nm := ⟨⟨⟨hasR tab_ref03_low (by kernel_rfl), hasR tab_ref03_high (by kernel_rfl), hasR tab_ref03_digit (by kernel_rfl), hasR tab_ref03_hex (by kernel_rfl), hasR tab_ref03_name (by kernel_rfl), hasR tab_ref03_number (by kernel_rfl), hasR tab_ref03_str (by kernel_rfl), hasR tab_ref03_sign (by kernel_rfl), hasR tab_ref03_IsWord (by kernel_rfl)⟩, hasR tab_ref03_one (by kernel_rfl)⟩, hasR1, hasR tab_ref03_Lex (by kernel_rfl)⟩
theorem hasSame : Has gam tab (f_ref03_Same nm) (C_ref03_Same nm) := hasR tab_ref03_Same (by kernel_rfl)
theorem hasReads : Has gam tab (f_law03_LexerReads nm) (C_law03_LexerReads nm) := hasR tab_law03_LexerReads (by kernel_rfl)
theorem lives_0 : (lim gam tab).call (f_law03_lives nm) [] H00' = some (avBool true, none) := lim_of_env (n := 60) (isT_spec (by kernel_rfl))
theorem gamok : GOK Try.prog gam := gOr_ok (indexByte_ok (f0 := fIB) (fn := Try.f85) Try.func85 (by kernel_rfl) (by kernel_rfl) (by rfl) (by rfl)) (fromBits_ok (f0 := fFB) (fn := Try.f100) Try.func100 (by kernel_rfl) (by kernel_rfl) (by rfl) (by rfl))
end Go.Proofs.Y2
