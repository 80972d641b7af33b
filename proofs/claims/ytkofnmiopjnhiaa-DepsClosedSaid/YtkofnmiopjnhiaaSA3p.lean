/- Seat 3: what its table holds for the laws of nets; the summaries; the law's lives; the law DepsPuts. -/
import Derived.Test.YtkofnmiopjnhiaaM34
import Derived.Test.YtkofnmiopjnhiaaM36
import Derived.Test.YtkofnmiopjnhiaaM33
import Derived.Test.YtkofnmiopjnhiaaEngAG
import Derived.Test.YtkofnmiopjnhiaaEngAL
import Derived.Test.YtkofnmiopjnhiaaEngAM
import Derived.Test.YtkofnmiopjnhiaaM39
import Derived.Test.YtkofnmiopjnhiaaTabA3p
import Derived.Test.YtkofnmiopjnhiaaLayA3p
set_option linter.unusedVariables false
set_option linter.unusedSimpArgs false
set_option maxRecDepth 100000
namespace Go.Proofs.Y3p
open Go Go.Proofs.Eng Go.Shelf Go.Sort
def fSo : FuncId := f_slices_Sorted_string nm
def fK1 : FuncId := f_maps_Keys_map_string_sl_string_string_sl_string_1 nm
def fK2 : FuncId := f_maps_Keys_map_string_bool_string_bool_1 nm
def fSt : FuncId := f_slices_Sort_sl_string_string nm
def fIn : FuncId := f_law24_insert nm
def gamS : Sums := orS (gSorted fSo fK1 (t_string nm)) (gSorted fSo fK2 (t_string nm))
def gamB : Sums := orS gamS (gSort fSt encStr decStr sortB)
def gam : Sums := orS gamB (gIns fIn)
theorem gamB_ok : GOK Try.prog gamB := by
  have h1 := sortedOK_of2 (P := Try.prog) Try_sorted37 (κ := Try_keys38_ren) { Try_keys38 with } Try_sort35 (by rfl) (by rfl)
  have h2 := sortedOK_of2 (P := Try.prog) Try_sorted37 (κ := Try_keys39_ren) { Try_keys39 with } Try_sort35 (by rfl) (by rfl)
  exact orS_ok (orS_ok (sorted_ok h1) (sorted_ok h2)) (strSort_ok (strSort Try_sort35))
def dTab0 : FuncId → Option DFunc := fun f => match f with
  | 17 => some (D_law24_insert nm)
  | _ => none
def dTab : FuncId → Option DFunc := fun f => match f with
  | 12 => some (D_p_deps_Net_Put nm)
  | 18 => some (D_law24_is nm)
  | _ => none
theorem resD17 : pDFunc Try.prog hint_law24_insert Try.f17 = some { D_law24_insert nm with frz := false } := by kernel_rfl
theorem resD12 : pDFunc Try.prog hint_p_deps_Net_Put Try.f12 = some { D_p_deps_Net_Put nm with frz := false } := by kernel_rfl
theorem resD18 : pDFunc Try.prog hint_law24_is Try.f18 = some { D_law24_is nm with frz := false } := by kernel_rfl
theorem dTab0_ok : TOKD Try.prog dTab0 := by
  intro f df h
  unfold dTab0 at h
  split at h
  · simp only [Option.some.injEq] at h
    subst h
    exact ⟨_, _, Try.func17, resD17⟩
  · simp at h
theorem dTab_ok : TOKD Try.prog dTab := by
  intro f df h
  unfold dTab at h
  split at h
  · simp only [Option.some.injEq] at h
    subst h
    exact ⟨_, _, Try.func12, resD12⟩
  · simp only [Option.some.injEq] at h
    subst h
    exact ⟨_, _, Try.func18, resD18⟩
  · simp at h
theorem gamok : GOK Try.prog gam := orS_ok gamB_ok (gIns_ok (N := nm) gamB_ok tab_ok dTab0_ok (by kernel_rfl))
theorem hasR {f : FuncId} {fn : AFunc} (h : tab f = some fn) (hk : (f == fSo || f == fSt || f == fIn) = false) : Has gam tab f fn := by
  refine ⟨h, fun args H => ?_⟩
  simp only [Bool.or_eq_false_iff, beq_eq_false_iff_ne] at hk
  obtain ⟨⟨e1, e2⟩, e3⟩ := hk
  refine orS_none (orS_none (orS_none ?_ ?_) ?_) ?_ <;> simp [gSorted, gSort, gIns, e1, e2, e3]
theorem hasN : LexN gam tab nm := ⟨hasR tab_lexer_low (by kernel_rfl), hasR tab_lexer_digit (by kernel_rfl), hasR tab_lexer_inName (by kernel_rfl), hasR tab_lexer_run (by kernel_rfl), hasR tab_lexer_words (by kernel_rfl),
  hasR tab_slices_Contains_sl_string_string (by kernel_rfl), hasR tab_slices_Index_sl_string_string (by kernel_rfl), hasR tab_lexer_IsWord (by kernel_rfl), hasR tab_lexer_IsName (by kernel_rfl)⟩
theorem lim_gam {f : FuncId} {args : List AV} {H : Hp} {r : AV × Option Hp} (h : gam f args H = some r) : (lim gam tab).call f args H = some r := by
  rw [lim_call_eq, h]
theorem hasD : DepC gam tab nm where
  lex := hasN
  isS := hasR tab_slices_IndexFunc_sl_string_string (by kernel_rfl)
  csS := hasR tab_slices_ContainsFunc_sl_string_string (by kernel_rfl)
  clone := hasR tab_slices_Clone_sl_string_string (by kernel_rfl)
  compact := hasR tab_slices_Compact_sl_string_string (by kernel_rfl)
  compactNil := fun H => by
    have h : Has gam tab (f_slices_Compact_sl_string_string nm) (C_slices_Compact_sl_string_string nm) := hasR tab_slices_Compact_sl_string_string (by kernel_rfl)
    apply h.call (by rfl)
    simp [C_slices_Compact_sl_string_string]
  del := hasR tab_slices_DeleteFunc_sl_string_string (by kernel_rfl)
  new := hasR tab_deps_New (by kernel_rfl)
  put1 := hasR tab_p_deps_Net_Put_1 (by kernel_rfl)
  names := hasR tab_p_deps_Net_Names (by kernel_rfl)
  on := hasR tab_p_deps_Net_On (by kernel_rfl)
  users := hasR tab_p_deps_Net_Users (by kernel_rfl)
  users1 := hasR tab_p_deps_Net_Users_1 (by kernel_rfl)
  cone := hasR tab_p_deps_Net_Cone (by kernel_rfl)
  miss := hasR tab_p_deps_Net_Missing (by kernel_rfl)
  keysS := hasR tab_maps_Keys_map_string_sl_string_string_sl_string (by kernel_rfl)
  keysB := hasR tab_maps_Keys_map_string_bool_string_bool (by kernel_rfl)
  sort := fun H id es t h hl => lim_gam (orS_left (orS_right (by
    have : (fSt == fSo) = false := by kernel_rfl
    have : fSt ≠ fSo := by simpa using this
    exact orS_none (by simp [gSorted, show f_slices_Sort_sl_string_string nm = fSt from rfl, this]) (by simp [gSorted, show f_slices_Sort_sl_string_string nm = fSt from rfl, this])) (gSort_str fSt H id es t h hl)))
  sortNil := fun H => lim_gam (orS_left (orS_right (by
    have : (fSt == fSo) = false := by kernel_rfl
    have : fSt ≠ fSo := by simpa using this
    exact orS_none (by simp [gSorted, show f_slices_Sort_sl_string_string nm = fSt from rfl, this]) (by simp [gSorted, show f_slices_Sort_sl_string_string nm = fSt from rfl, this])) (gSort_nil fSt H)))
  sortedS := fun H id mid es clk t h1 h2 h3 h4 h5 => lim_gam (orS_left (orS_left (orS_left (gSorted_call (fS := fSo) (fK := fK1) (tS := t_string nm) h1 h2 (keysB_of h3 h4) h5))))
  sortedB := fun H id mid es clk t h1 h2 h3 h4 h5 => lim_gam (orS_left (orS_left (orS_right (by
    have : (fK2 == fK1) = false := by kernel_rfl
    have : fK2 ≠ fK1 := by simpa using this
    simp [gSorted, show f_maps_Keys_map_string_bool_string_bool_1 nm = fK2 from rfl, this]) (gSorted_call (fS := fSo) (fK := fK2) (tS := t_string nm) h1 h2 (keysB_of h3 h4) h5))))
theorem hasI : IsC gam tab nm where
  dep := hasD
  ins := fun {H x ks} h hl s => lim_gam (orS_right (by
    have h1 : (fIn == fSo) = false := by kernel_rfl
    have h1 : fIn ≠ fSo := by simpa using h1
    have h2 : (fIn == fSt) = false := by kernel_rfl
    have h2 : fIn ≠ fSt := by simpa using h2
    refine orS_none (orS_none ?_ ?_) ?_ <;> simp [gSorted, gSort, show f_law24_insert nm = fIn from rfl, h1, h2]) (gIns_call (fI := fIn) h hl s))
  same := hasR tab_law07_Same (by kernel_rfl)
theorem lives_24 : (lim gam tab).call (f_law24_lives nm) [] { l := [], d := none } = some (avBool true, none) := lim_of_env (n := 60) (isT_spec (by kernel_rfl))
noncomputable def dC : DCalls := dCalls (A := tab) gamok dTab
theorem dC_ok : DCOK Try.prog dC := dCalls_ok gamok tab_ok dTab_ok
theorem dC_run {f : FuncId} {df : DFunc} {args : List AV} {H : Hp} {R : AV × Option Hp → Prop} (h1 : dTab f = some df) (h : DRunP noC gam tab df args H R) : dC.run f args H R := ⟨_, h1, h⟩
theorem hasP : PutsC dC gam tab nm where
  is := hasI
  few := hasR tab_law24_Few (by kernel_rfl)
  name := fun s H hl => ref04_Name_call' ⟨hasR tab_ref04_Tag (by kernel_rfl), hasR tab_ref04_Name (by kernel_rfl)⟩ (hasR tab_ref03_IsWord (by kernel_rfl)) s hl H
  put := fun hi hx hn hol hob hl => dC_run (df := D_p_deps_Net_Put nm) (by kernel_rfl) (Put_run hasD hi hx hn hol hob hl)
theorem rows_of {x : AV} (h : WT Try.prog 4 22 [x]) : ∃ es rs, Fzr 2 x es ∧ IsRows es rs ∧ es.length ≤ maxLen ∧ ∀ r ∈ rs, r.1.length ≤ maxLen ∧ r.2.length ≤ maxLen ∧ ∀ s ∈ r.2, s.length ≤ maxLen := by
  obtain ⟨l, h1, h2, h3⟩ := wt_structs Try.underlying22 Try.underlying29 h
  have h4 : ∀ ys ∈ l, ∃ r : Bs × List Bs, IsRow (.agg ys) r.1 r.2 ∧ r.1.length ≤ maxLen ∧ r.2.length ≤ maxLen ∧ ∀ s ∈ r.2, s.length ≤ maxLen := by
    intro ys hy
    obtain ⟨_, h5⟩ := h3 ys hy
    obtain ⟨h6, h7⟩ := wt_fields Try.underlying29 h5
    rw [show Try.prog.cellsOf 29 = 2 from by kernel_rfl] at h6
    obtain ⟨a, b, rfl⟩ : ∃ a b, ys = [a, b] := by
      match ys, h6 with
      | [a, b], _ => exact ⟨a, b, rfl⟩
    simp only [List.forall_mem_cons, show Try.prog.cellsOf 9 = 1 from by kernel_rfl, show Try.prog.cellsOf 27 = 1 from by kernel_rfl] at h7
    obtain ⟨f1, f2, _⟩ := h7
    obtain ⟨u, rfl, hu⟩ := wt_str Try.underlying9 f1
    obtain ⟨on, g1, g2, g3⟩ := wt_strs Try.underlying27 Try.underlying9 (by kernel_rfl) f2
    exact ⟨(u, on), ⟨b, rfl, g1⟩, hu, g2, g3⟩
  obtain ⟨rs, e1, e2⟩ : ∃ rs : List (Bs × List Bs), IsRows (l.map .agg) rs ∧ ∀ r ∈ rs, r.1.length ≤ maxLen ∧ r.2.length ≤ maxLen ∧ ∀ s ∈ r.2, s.length ≤ maxLen := by
    clear h1 h2 h3
    induction l with
    | nil => exact ⟨[], ⟨rfl, by simp⟩, by simp⟩
    | cons a l ih =>
      obtain ⟨rs, i1, i2⟩ := ih (fun ys hy => h4 ys (by simp [hy]))
      obtain ⟨r, j1, j2⟩ := h4 a (by simp)
      refine ⟨r :: rs, ⟨by simp [← i1.1], fun i e r' he hr => ?_⟩, ?_⟩
      · cases i with
        | zero =>
          simp at he hr
          subst he; subst hr
          exact j1
        | succ i =>
          rw [List.map_cons, List.getElem?_cons_succ] at he
          rw [List.getElem?_cons_succ] at hr
          exact i1.2 i e r' he hr
      · simp only [List.forall_mem_cons]
        exact ⟨j2, i2⟩
  exact ⟨_, rs, by rw [show Try.prog.cellsOf 29 = 2 from by kernel_rfl] at h1; exact h1, e1, by simpa using h2, e2⟩
end Go.Proofs.Y3p
