/-
  DERIVED. GIVEN WITH THE SEED: THE CARDS: each row of YtkofnmiopjnhiaaGreatDoorRows.lean that lists a variable, with what it lists TIED to the program's text (the seventh form; the later family's looks); each row that meets fmt, with fmt's text TOLD by the authors' own Lean function (tested against real Go, not proved from fmt's source: count such statements apart). THE CARD IS WHAT COUNTS. Prove the row's statement (the work); the ties are given (YtkofnmiopjnhiaaGreatDoorTie.lean); close each card by the builder's one call (the guide's Derived/Test/ToyasCard.lean, 'card_holds'). Laid BY PROGRAM, IN A SANDBOX (cutbox-door.mjs). By AI agents, Wed Nov 11 2026. No macro, syntax, notation, axiom, sorry.
-/
import Derived.Test.YtkofnmiopjnhiaaGreatDoorRows
import GoSem.ClaimSeven
namespace Go.Proofs.YtkofnmiopjnhiaaGreatDoor
namespace Rows

/-- THE TIED CARD OF 'azimuthlaw24.DepsNone'. -/
def depsNoneCard : Claim7 := { stood := { row := depsNoneRow, standIns := [], harness := (true, "0050fc93c02637551aeaadbadaac71e7587841d83225669de3611932bba452c9"), looks := true }, kinds := [], alts := [], laidByText := true, laidKinds := [.data, .data, .data, .sentinel, .sentinel], laidTests := true, laidLooks := .later }
def DepsNoneCardSaid : Prop := Claim7.holds Tryz.pinned (.plain (OpenSpec.ofChange depsNoneSpec)) depsNoneCard

/-- THE TIED CARD OF 'azimuthlaw24.DepsStores'. -/
def depsStoresCard : Claim7 := { stood := { row := depsStoresRow, standIns := [], harness := (true, "0050fc93c02637551aeaadbadaac71e7587841d83225669de3611932bba452c9"), looks := true }, kinds := [], alts := [], laidByText := true, laidKinds := [.data, .data, .data, .sentinel, .sentinel], laidTests := true, laidLooks := .later }
def DepsStoresCardSaid : Prop := Claim7.holds Tryz.pinned (.plain (OpenSpec.ofChange depsStoresSpec)) depsStoresCard

/-- THE SECOND FORM's CARD OF 'azimuthlaw24.DepsNone'. -/
def depsNoneUptoCard : Claim7 := { stood := { row := depsNoneUptoRow, standIns := [], harness := (true, "0050fc93c02637551aeaadbadaac71e7587841d83225669de3611932bba452c9"), looks := true }, kinds := [], alts := [], laidByText := true, laidKinds := [.data, .data, .data, .sentinel, .sentinel], laidTests := true, laidLooks := .later }
def DepsNoneUptoCardSaid : Prop := Claim7.holds Tryz.pinned (.plain (OpenSpec.upto depsNoneSpec)) depsNoneUptoCard

/-- THE SECOND FORM's CARD OF 'azimuthlaw24.DepsStores'. -/
def depsStoresUptoCard : Claim7 := { stood := { row := depsStoresUptoRow, standIns := [], harness := (true, "0050fc93c02637551aeaadbadaac71e7587841d83225669de3611932bba452c9"), looks := true }, kinds := [], alts := [], laidByText := true, laidKinds := [.data, .data, .data, .sentinel, .sentinel], laidTests := true, laidLooks := .later }
def DepsStoresUptoCardSaid : Prop := Claim7.holds Tryz.pinned (.plain (OpenSpec.upto depsStoresSpec)) depsStoresUptoCard
end Rows
end Go.Proofs.YtkofnmiopjnhiaaGreatDoor
