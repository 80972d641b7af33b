/- Seat 2: what its table holds for the law StoreRounds; the summaries; the law's lives. -/
import Derived.Test.YtchbifaiofljdaaM46
import Derived.Test.YtchbifaiofljdaaM34
import Derived.Test.YtchbifaiofljdaaM37
import Derived.Test.YtchbifaiofljdaaEngAL
import Derived.Test.YtchbifaiofljdaaEngAM
import Derived.Test.YtchbifaiofljdaaTabA2r
import Derived.Test.YtchbifaiofljdaaLayA2
set_option linter.unusedVariables false
set_option maxRecDepth 100000
namespace Go.Proofs.Y2r
open Go Go.Proofs.Eng Go.Shelf
def fSo : FuncId := f_slices_Sorted_string nm
def fKe : FuncId := f_maps_Keys_map_string_sl_byte_string_sl_byte_1 nm
def gam : Sums := gSorted fSo fKe (t_string nm)
theorem hasR {f : FuncId} {fn : AFunc} (h : tab f = some fn) (hk : (f == fSo) = false) : Has gam tab f fn := by
  refine ⟨h, fun args H => ?_⟩
  have e1 : f ≠ fSo := by simpa using hk
  simp [gam, gSorted, e1]
theorem hasS : LexS gam tab nm := ⟨hasR tab_lexer_low (by kernel_rfl), hasR tab_lexer_high (by kernel_rfl), hasR tab_lexer_digit (by kernel_rfl), hasR tab_lexer_inName (by kernel_rfl), hasR tab_lexer_inAlias (by kernel_rfl), hasR tab_lexer_blank_1 (by kernel_rfl), hasR tab_lexer_run (by kernel_rfl), hasR tab_lexer_words (by kernel_rfl), hasR tab_lexer_signs (by kernel_rfl),
  hasR tab_slices_Contains_sl_string_string (by kernel_rfl), hasR tab_slices_Index_sl_string_string (by kernel_rfl), hasR tab_lexer_IsWord (by kernel_rfl), hasR tab_lexer_IsName (by kernel_rfl), hasR tab_lexer_number (by kernel_rfl)⟩
theorem hasR3 : Ref03S gam tab nm := ⟨hasR tab_ref03_low (by kernel_rfl), hasR tab_ref03_high (by kernel_rfl), hasR tab_ref03_digit (by kernel_rfl), hasR tab_ref03_hex (by kernel_rfl), hasR tab_ref03_name (by kernel_rfl), hasR tab_ref03_number (by kernel_rfl), hasR tab_ref03_str (by kernel_rfl), hasR tab_ref03_sign (by kernel_rfl), hasR tab_ref03_IsWord (by kernel_rfl)⟩
theorem hasR4 : Ref04N gam tab nm := ⟨hasR tab_ref04_Tag (by kernel_rfl), hasR tab_ref04_Name (by kernel_rfl)⟩
theorem hasSt : StoreS gam tab nm := ⟨hasS, hasR tab_slices_Clone_sl_byte_byte (by kernel_rfl), hasR tab_store_New (by kernel_rfl), hasR tab_p_store_Store_Set (by kernel_rfl), hasR tab_p_store_Store_Delete (by kernel_rfl)⟩
theorem hasS2 : StoreS2 gam tab nm := ⟨hasR tab_p_store_Store_Rename (by kernel_rfl), hasR tab_p_store_Store_Text (by kernel_rfl), hasR tab_p_store_Store_Len (by kernel_rfl), hasR tab_p_store_Store_Turn (by kernel_rfl), hasR tab_p_store_Store_All (by kernel_rfl), hasR tab_p_store_Store_All_1 (by kernel_rfl), hasR tab_maps_Keys_map_string_sl_byte_string_sl_byte (by kernel_rfl),
  fun H id mid es clk t h1 h2 h3 h4 h5 => by
    rw [lim_call_eq]
    have := gSorted_call (fS := fSo) (fK := fKe) (tS := t_string nm) h1 h2 (keysB_of h3 h4) h5
    simp only [gam]
    rw [show f_slices_Sorted_string nm = fSo from rfl, show f_maps_Keys_map_string_sl_byte_string_sl_byte_1 nm = fKe from rfl, this]⟩
theorem gamok : GOK Try.prog gam := by
  have h := sortedOK_of2 (P := Try.prog) Go.Proofs.Y2k.Try_sorted46 (κ := Go.Proofs.Y2k.Try_keys47_ren) { Go.Proofs.Y2k.Try_keys47 with } Go.Proofs.Y2k.Try_sort72 (by rfl) (by rfl)
  exact sorted_ok h
theorem hasL : StoreL gam tab nm := ⟨hasR tab_law23_do (by kernel_rfl), hasR tab_law23_is (by kernel_rfl), fun s H hl => ref04_Name_call hasR4 hasR3 s hl H, fun e => lim_le gamok e⟩
theorem lives_23 : (lim gam tab).call (f_law23_lives nm) [] { l := [], d := none } = some (avBool true, none) := lim_of_env (n := 60) (isT_spec (by kernel_rfl))
end Go.Proofs.Y2r
namespace Go.Proofs.Y2r
open Go Go.Proofs.Eng
theorem acts_of {x : AV} (h : WT Try.prog 4 41 [x]) : ∃ es, Fzr 4 x es ∧ (∀ e ∈ es, IsAct e) ∧ es.length ≤ maxLen := by
  obtain ⟨l, h1, h2, h3⟩ := wt_structs Try.underlying41 Try.underlying44 h
  refine ⟨l.map .agg, h1, fun e he => ?_, by simpa using h2⟩
  obtain ⟨ys, hy, rfl⟩ := List.mem_map.1 he
  obtain ⟨_, h5⟩ := h3 ys hy
  obtain ⟨h6, h7⟩ := wt_fields Try.underlying44 h5
  rw [show Try.prog.cellsOf 44 = 4 from by kernel_rfl] at h6
  obtain ⟨a, b, c, d, rfl⟩ : ∃ a b c d, ys = [a, b, c, d] := by
    match ys, h6 with
    | [a, b, c, d], _ => exact ⟨a, b, c, d, rfl⟩
  simp only [List.forall_mem_cons, show Try.prog.cellsOf 3 = 1 from by kernel_rfl, show Try.prog.cellsOf 9 = 1 from by kernel_rfl, show Try.prog.cellsOf 27 = 1 from by kernel_rfl] at h7
  obtain ⟨f1, f2, f3, f4, _⟩ := h7
  obtain ⟨k, rfl, _⟩ := wt_int Try.underlying3 f1
  obtain ⟨u, rfl, _⟩ := wt_str Try.underlying9 f2
  obtain ⟨v, rfl, _⟩ := wt_str Try.underlying9 f3
  obtain ⟨tx, f5, _⟩ := wt_bytes Try.underlying27 Try.underlying5 (by kernel_rfl) f4
  exact ⟨k, u, v, d, tx, rfl, f5⟩
end Go.Proofs.Y2r
