/- The seat's table: the numbers of functions and types, and that the templates are the program's functions. Printed by tm.py. -/
import Derived.Test.YtombplnoeikhoaaProg
import Derived.Test.YtombplnoeikhoaaEngFrunes
import Derived.Test.YtombplnoeikhoaaEngFlaw01
import Derived.KernelRfl
set_option linter.unusedVariables false
set_option maxRecDepth 100000
namespace Go.Proofs.Y1
open Go Go.Proofs.Eng

def nmF : List Nat := [0, 1, 2, 3, 4, 5, 6, 7, 8, 9, 10, 11, 12, 13, 14, 15, 16, 17, 18, 19, 20, 21, 22, 23, 24, 25, 26, 27, 28, 29, 30, 31, 32, 33, 34, 35, 36, 37, 38, 39, 40]
def nmT : List Nat := [3, 4, 5, 21, 22, 32, 43, 9, 0, 0, 0, 0, 0, 0, 0, 0, 0]
def nm (i : Nat) : Nat := if i < 100000 then nmF.getD i 0 else nmT.getD (i - 100000) 0

def tab : Tab := fun f => match f with
  | 3 => some (C_law01_RunesWhere nm)
  | 4 => some (C_law01_RunesCuts nm)
  | 5 => some (C_law01_RunesReads nm)
  | 6 => some (C_law01_RunesJoin nm)
  | 7 => some (C_law01_RunesEncodes nm)
  | 8 => some (C_law01_lives nm)
  | 9 => some (C_runes_Where nm)
  | 10 => some (C_ref01_Where nm)
  | 11 => some (C_runes_Bad nm)
  | 12 => some (C_runes_All nm)
  | 13 => some (C_ref01_Signs nm)
  | 14 => some (C_runes_Count nm)
  | 15 => some (C_runes_Encode nm)
  | 16 => some (C_ref01_Encode nm)
  | 17 => some (C_runes_Where_1 nm)
  | 18 => some (C_runes_size nm)
  | 19 => some (C_runes_All_1 nm)
  | 20 => some (C_runes_first nm)
  | 21 => some (C_ref01_First nm)
  | 22 => some (C_runes_sign nm)
  | 23 => some (C_ref01_value nm)
  | _ => none

theorem res3 : pFunc Try.prog Try.f3 = some { C_law01_RunesWhere nm with frz := false } := by kernel_rfl
theorem res4 : pFunc Try.prog Try.f4 = some { C_law01_RunesCuts nm with frz := false } := by kernel_rfl
theorem res5 : pFunc Try.prog Try.f5 = some { C_law01_RunesReads nm with frz := false } := by kernel_rfl
theorem res6 : pFunc Try.prog Try.f6 = some { C_law01_RunesJoin nm with frz := false } := by kernel_rfl
theorem res7 : pFunc Try.prog Try.f7 = some { C_law01_RunesEncodes nm with frz := false } := by kernel_rfl
theorem res8 : pFunc Try.prog Try.f8 = some { C_law01_lives nm with frz := false } := by kernel_rfl
theorem res9 : pFunc Try.prog Try.f9 = some { C_runes_Where nm with frz := false } := by kernel_rfl
theorem res10 : pFunc Try.prog Try.f10 = some { C_ref01_Where nm with frz := false } := by kernel_rfl
theorem res11 : pFunc Try.prog Try.f11 = some { C_runes_Bad nm with frz := false } := by kernel_rfl
theorem res12 : pFunc Try.prog Try.f12 = some { C_runes_All nm with frz := false } := by kernel_rfl
theorem res13 : pFunc Try.prog Try.f13 = some { C_ref01_Signs nm with frz := false } := by kernel_rfl
theorem res14 : pFunc Try.prog Try.f14 = some { C_runes_Count nm with frz := false } := by kernel_rfl
theorem res15 : pFunc Try.prog Try.f15 = some { C_runes_Encode nm with frz := false } := by kernel_rfl
theorem res16 : pFunc Try.prog Try.f16 = some { C_ref01_Encode nm with frz := false } := by kernel_rfl
theorem res17 : pFunc Try.prog Try.f17 = some { C_runes_Where_1 nm with frz := false } := by kernel_rfl
theorem res18 : pFunc Try.prog Try.f18 = some { C_runes_size nm with frz := false } := by kernel_rfl
theorem res19 : pFunc Try.prog Try.f19 = some { C_runes_All_1 nm with frz := false } := by kernel_rfl
theorem res20 : pFunc Try.prog Try.f20 = some { C_runes_first nm with frz := false } := by kernel_rfl
theorem res21 : pFunc Try.prog Try.f21 = some { C_ref01_First nm with frz := false } := by kernel_rfl
theorem res22 : pFunc Try.prog Try.f22 = some { C_runes_sign nm with frz := false } := by kernel_rfl
theorem res23 : pFunc Try.prog Try.f23 = some { C_ref01_value nm with frz := false } := by kernel_rfl

theorem tab_ok : TOK Try.prog tab := by
  intro f af h
  unfold tab at h
  split at h
  · simp only [Option.some.injEq] at h; subst h; exact ⟨Try.f3, Try.func3, res3⟩
  · simp only [Option.some.injEq] at h; subst h; exact ⟨Try.f4, Try.func4, res4⟩
  · simp only [Option.some.injEq] at h; subst h; exact ⟨Try.f5, Try.func5, res5⟩
  · simp only [Option.some.injEq] at h; subst h; exact ⟨Try.f6, Try.func6, res6⟩
  · simp only [Option.some.injEq] at h; subst h; exact ⟨Try.f7, Try.func7, res7⟩
  · simp only [Option.some.injEq] at h; subst h; exact ⟨Try.f8, Try.func8, res8⟩
  · simp only [Option.some.injEq] at h; subst h; exact ⟨Try.f9, Try.func9, res9⟩
  · simp only [Option.some.injEq] at h; subst h; exact ⟨Try.f10, Try.func10, res10⟩
  · simp only [Option.some.injEq] at h; subst h; exact ⟨Try.f11, Try.func11, res11⟩
  · simp only [Option.some.injEq] at h; subst h; exact ⟨Try.f12, Try.func12, res12⟩
  · simp only [Option.some.injEq] at h; subst h; exact ⟨Try.f13, Try.func13, res13⟩
  · simp only [Option.some.injEq] at h; subst h; exact ⟨Try.f14, Try.func14, res14⟩
  · simp only [Option.some.injEq] at h; subst h; exact ⟨Try.f15, Try.func15, res15⟩
  · simp only [Option.some.injEq] at h; subst h; exact ⟨Try.f16, Try.func16, res16⟩
  · simp only [Option.some.injEq] at h; subst h; exact ⟨Try.f17, Try.func17, res17⟩
  · simp only [Option.some.injEq] at h; subst h; exact ⟨Try.f18, Try.func18, res18⟩
  · simp only [Option.some.injEq] at h; subst h; exact ⟨Try.f19, Try.func19, res19⟩
  · simp only [Option.some.injEq] at h; subst h; exact ⟨Try.f20, Try.func20, res20⟩
  · simp only [Option.some.injEq] at h; subst h; exact ⟨Try.f21, Try.func21, res21⟩
  · simp only [Option.some.injEq] at h; subst h; exact ⟨Try.f22, Try.func22, res22⟩
  · simp only [Option.some.injEq] at h; subst h; exact ⟨Try.f23, Try.func23, res23⟩
  · simp at h

theorem tab_law01_RunesWhere : tab (f_law01_RunesWhere nm) = some (C_law01_RunesWhere nm) := by kernel_rfl
theorem tab_law01_RunesCuts : tab (f_law01_RunesCuts nm) = some (C_law01_RunesCuts nm) := by kernel_rfl
theorem tab_law01_RunesReads : tab (f_law01_RunesReads nm) = some (C_law01_RunesReads nm) := by kernel_rfl
theorem tab_law01_RunesJoin : tab (f_law01_RunesJoin nm) = some (C_law01_RunesJoin nm) := by kernel_rfl
theorem tab_law01_RunesEncodes : tab (f_law01_RunesEncodes nm) = some (C_law01_RunesEncodes nm) := by kernel_rfl
theorem tab_law01_lives : tab (f_law01_lives nm) = some (C_law01_lives nm) := by kernel_rfl
theorem tab_runes_Where : tab (f_runes_Where nm) = some (C_runes_Where nm) := by kernel_rfl
theorem tab_ref01_Where : tab (f_ref01_Where nm) = some (C_ref01_Where nm) := by kernel_rfl
theorem tab_runes_Bad : tab (f_runes_Bad nm) = some (C_runes_Bad nm) := by kernel_rfl
theorem tab_runes_All : tab (f_runes_All nm) = some (C_runes_All nm) := by kernel_rfl
theorem tab_ref01_Signs : tab (f_ref01_Signs nm) = some (C_ref01_Signs nm) := by kernel_rfl
theorem tab_runes_Count : tab (f_runes_Count nm) = some (C_runes_Count nm) := by kernel_rfl
theorem tab_runes_Encode : tab (f_runes_Encode nm) = some (C_runes_Encode nm) := by kernel_rfl
theorem tab_ref01_Encode : tab (f_ref01_Encode nm) = some (C_ref01_Encode nm) := by kernel_rfl
theorem tab_runes_Where_1 : tab (f_runes_Where_1 nm) = some (C_runes_Where_1 nm) := by kernel_rfl
theorem tab_runes_size : tab (f_runes_size nm) = some (C_runes_size nm) := by kernel_rfl
theorem tab_runes_All_1 : tab (f_runes_All_1 nm) = some (C_runes_All_1 nm) := by kernel_rfl
theorem tab_runes_first : tab (f_runes_first nm) = some (C_runes_first nm) := by kernel_rfl
theorem tab_ref01_First : tab (f_ref01_First nm) = some (C_ref01_First nm) := by kernel_rfl
theorem tab_runes_sign : tab (f_runes_sign nm) = some (C_runes_sign nm) := by kernel_rfl
theorem tab_ref01_value : tab (f_ref01_value nm) = some (C_ref01_value nm) := by kernel_rfl
end Go.Proofs.Y1
