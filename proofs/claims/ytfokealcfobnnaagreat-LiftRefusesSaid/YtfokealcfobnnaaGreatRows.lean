/-
  No cell of these rows narrows 'for every input' (looked for: loops, veiled, ifaces, maps, wideKeys, modest, calm, conditions, laid).
  DERIVED. THE GIVEN ROWS OF THIS SEAT. 9 by the template 'for every input the law returns true; each argument reads behind the call as it read before'; 0 by the template 'total and deterministic' (their statements: YtfokealcfobnnaaGreatTotals.lean).
  GIVEN WITH THE SEED: the statements are not yours to turn. If you find one false, say at which input.
  Laid BY PROGRAM, IN A SANDBOX (cutbox-rows.mjs): the forced cells as the released guide's own fill.sh prints them over the translation 2ad72a6af4b81854… (all of the seat's roots in one cut). By AI agents, Wed Nov 11 2026. No macro, syntax, notation, axiom, sorry.
-/
import Derived.Test.YtfokealcfobnnaaGreatChecked
import GoSem.Claim
import GoSem.ClaimJoined
import GoSem.ClaimMapViews
import Derived.JoinedTies
import Derived.KernelRfl
namespace Go.Proofs.YtfokealcfobnnaaGreat
/- THE CELL 'sum', in the pinned program and in every row, IS THE sha256 OF THE DUMP (.gsa) THAT YtfokealcfobnnaaGreatProg.lean LOADS. Nothing in Lean hashes anything: it is a label: what it is worth is what the hold of that sum in a sandbox is worth. -/
noncomputable def Tryz.pinned : Pinned := { name := "ytfokealcfobnnaagreat", sum := "2ad72a6af4b81854e59d57acaf4c5cd7b406dec9f2afc542e6dfb42dc6f0bc53", checked := Tryz.checked }
namespace Rows
def none {H : Type} : Left H := { results := [], args := [] }

/-- 'azimuthlaw13.SolveAgain': WHATEVER THE INPUT: true; the input reads as it did. -/
def solveAgainSpec : ChangeSpec := { name := "solveAgain", fn := fun _ => fun
  | [d1, d2] => { results := [.lit (.bool true)], args := [d1, d2] }
  | _ => none }
def solveAgainRow : OpenClaim := { program := "ytfokealcfobnnaagreat", sum := "2ad72a6af4b81854e59d57acaf4c5cd7b406dec9f2afc542e6dfb42dc6f0bc53", func := "azimuth/azimuthlaw13.SolveAgain", spec := "solveAgain", inPlace := ["math.Float64frombits", "internal/bytealg.IndexByteString"], unfollowed := true, recurses := true, plainKeys := false, apart := false }
def SolveAgainSaid : Prop := solveAgainRow.holds Tryz.pinned (OpenSpec.ofChange solveAgainSpec)

/-- ITS FALSE NEIGHBOUR: 'it returns false'. Refute it at one input. -/
def solveAgainWrong : ChangeSpec := { name := "solveAgain", fn := fun _ => fun
  | [d1, d2] => { results := [.lit (.bool false)], args := [d1, d2] }
  | _ => none }
def SolveAgainWrongFalsely : Prop := solveAgainRow.holds Tryz.pinned (OpenSpec.ofChange solveAgainWrong)

/-- 'azimuthlaw13.SolveOrder': WHATEVER THE INPUT: true; the input reads as it did. -/
def solveOrderSpec : ChangeSpec := { name := "solveOrder", fn := fun _ => fun
  | [d1, d2, d3] => { results := [.lit (.bool true)], args := [d1, d2, d3] }
  | _ => none }
def solveOrderRow : OpenClaim := { program := "ytfokealcfobnnaagreat", sum := "2ad72a6af4b81854e59d57acaf4c5cd7b406dec9f2afc542e6dfb42dc6f0bc53", func := "azimuth/azimuthlaw13.SolveOrder", spec := "solveOrder", inPlace := ["math.Float64frombits", "internal/bytealg.IndexByteString"], unfollowed := true, recurses := true, plainKeys := false, apart := false }
def SolveOrderSaid : Prop := solveOrderRow.holds Tryz.pinned (OpenSpec.ofChange solveOrderSpec)

/-- ITS FALSE NEIGHBOUR: 'it returns false'. Refute it at one input. -/
def solveOrderWrong : ChangeSpec := { name := "solveOrder", fn := fun _ => fun
  | [d1, d2, d3] => { results := [.lit (.bool false)], args := [d1, d2, d3] }
  | _ => none }
def SolveOrderWrongFalsely : Prop := solveOrderRow.holds Tryz.pinned (OpenSpec.ofChange solveOrderWrong)

/-- 'azimuthlaw13.SolveLevels': WHATEVER THE INPUT: true; the input reads as it did. -/
def solveLevelsSpec : ChangeSpec := { name := "solveLevels", fn := fun _ => fun
  | [d1, d2] => { results := [.lit (.bool true)], args := [d1, d2] }
  | _ => none }
def solveLevelsRow : OpenClaim := { program := "ytfokealcfobnnaagreat", sum := "2ad72a6af4b81854e59d57acaf4c5cd7b406dec9f2afc542e6dfb42dc6f0bc53", func := "azimuth/azimuthlaw13.SolveLevels", spec := "solveLevels", inPlace := ["math.Float64frombits", "internal/bytealg.IndexByteString"], unfollowed := true, recurses := true, plainKeys := false, apart := false }
def SolveLevelsSaid : Prop := solveLevelsRow.holds Tryz.pinned (OpenSpec.ofChange solveLevelsSpec)

/-- ITS FALSE NEIGHBOUR: 'it returns false'. Refute it at one input. -/
def solveLevelsWrong : ChangeSpec := { name := "solveLevels", fn := fun _ => fun
  | [d1, d2] => { results := [.lit (.bool false)], args := [d1, d2] }
  | _ => none }
def SolveLevelsWrongFalsely : Prop := solveLevelsRow.holds Tryz.pinned (OpenSpec.ofChange solveLevelsWrong)

/-- 'azimuthlaw13.SolveRaises': WHATEVER THE INPUT: true; the input reads as it did. -/
def solveRaisesSpec : ChangeSpec := { name := "solveRaises", fn := fun _ => fun
  | [d1, d2, d3, d4, d5] => { results := [.lit (.bool true)], args := [d1, d2, d3, d4, d5] }
  | _ => none }
def solveRaisesRow : OpenClaim := { program := "ytfokealcfobnnaagreat", sum := "2ad72a6af4b81854e59d57acaf4c5cd7b406dec9f2afc542e6dfb42dc6f0bc53", func := "azimuth/azimuthlaw13.SolveRaises", spec := "solveRaises", inPlace := ["math.Float64frombits", "internal/bytealg.IndexByteString"], unfollowed := true, recurses := true, plainKeys := false, apart := false }
def SolveRaisesSaid : Prop := solveRaisesRow.holds Tryz.pinned (OpenSpec.ofChange solveRaisesSpec)

/-- ITS FALSE NEIGHBOUR: 'it returns false'. Refute it at one input. -/
def solveRaisesWrong : ChangeSpec := { name := "solveRaises", fn := fun _ => fun
  | [d1, d2, d3, d4, d5] => { results := [.lit (.bool false)], args := [d1, d2, d3, d4, d5] }
  | _ => none }
def SolveRaisesWrongFalsely : Prop := solveRaisesRow.holds Tryz.pinned (OpenSpec.ofChange solveRaisesWrong)

/-- 'azimuthlaw13.SolveTells': WHATEVER THE INPUT: true; the input reads as it did. -/
def solveTellsSpec : ChangeSpec := { name := "solveTells", fn := fun _ => fun
  | [d1, d2] => { results := [.lit (.bool true)], args := [d1, d2] }
  | _ => none }
def solveTellsRow : OpenClaim := { program := "ytfokealcfobnnaagreat", sum := "2ad72a6af4b81854e59d57acaf4c5cd7b406dec9f2afc542e6dfb42dc6f0bc53", func := "azimuth/azimuthlaw13.SolveTells", spec := "solveTells", inPlace := ["math.Float64frombits", "internal/bytealg.IndexByteString"], unfollowed := true, recurses := true, plainKeys := false, apart := false }
def SolveTellsSaid : Prop := solveTellsRow.holds Tryz.pinned (OpenSpec.ofChange solveTellsSpec)

/-- ITS FALSE NEIGHBOUR: 'it returns false'. Refute it at one input. -/
def solveTellsWrong : ChangeSpec := { name := "solveTells", fn := fun _ => fun
  | [d1, d2] => { results := [.lit (.bool false)], args := [d1, d2] }
  | _ => none }
def SolveTellsWrongFalsely : Prop := solveTellsRow.holds Tryz.pinned (OpenSpec.ofChange solveTellsWrong)

/-- 'azimuthlaw14.LiftApart': WHATEVER THE INPUT: true; the input reads as it did. -/
def liftApartSpec : ChangeSpec := { name := "liftApart", fn := fun _ => fun
  | [d1, d2, d3, d4] => { results := [.lit (.bool true)], args := [d1, d2, d3, d4] }
  | _ => none }
def liftApartRow : OpenClaim := { program := "ytfokealcfobnnaagreat", sum := "2ad72a6af4b81854e59d57acaf4c5cd7b406dec9f2afc542e6dfb42dc6f0bc53", func := "azimuth/azimuthlaw14.LiftApart", spec := "liftApart", inPlace := ["math.Float64frombits", "internal/bytealg.IndexByteString"], unfollowed := true, recurses := true, plainKeys := false, apart := false }
def LiftApartSaid : Prop := liftApartRow.holds Tryz.pinned (OpenSpec.ofChange liftApartSpec)

/-- ITS FALSE NEIGHBOUR: 'it returns false'. Refute it at one input. -/
def liftApartWrong : ChangeSpec := { name := "liftApart", fn := fun _ => fun
  | [d1, d2, d3, d4] => { results := [.lit (.bool false)], args := [d1, d2, d3, d4] }
  | _ => none }
def LiftApartWrongFalsely : Prop := liftApartRow.holds Tryz.pinned (OpenSpec.ofChange liftApartWrong)

/-- 'azimuthlaw14.LiftRefuses': WHATEVER THE INPUT: true; the input reads as it did. -/
def liftRefusesSpec : ChangeSpec := { name := "liftRefuses", fn := fun _ => fun
  | [d1, d2, d3] => { results := [.lit (.bool true)], args := [d1, d2, d3] }
  | _ => none }
def liftRefusesRow : OpenClaim := { program := "ytfokealcfobnnaagreat", sum := "2ad72a6af4b81854e59d57acaf4c5cd7b406dec9f2afc542e6dfb42dc6f0bc53", func := "azimuth/azimuthlaw14.LiftRefuses", spec := "liftRefuses", inPlace := ["math.Float64frombits", "internal/bytealg.IndexByteString"], unfollowed := true, recurses := true, plainKeys := false, apart := false }
def LiftRefusesSaid : Prop := liftRefusesRow.holds Tryz.pinned (OpenSpec.ofChange liftRefusesSpec)

/-- ITS FALSE NEIGHBOUR: 'it returns false'. Refute it at one input. -/
def liftRefusesWrong : ChangeSpec := { name := "liftRefuses", fn := fun _ => fun
  | [d1, d2, d3] => { results := [.lit (.bool false)], args := [d1, d2, d3] }
  | _ => none }
def LiftRefusesWrongFalsely : Prop := liftRefusesRow.holds Tryz.pinned (OpenSpec.ofChange liftRefusesWrong)

/-- 'azimuthlaw14.LiftCounts': WHATEVER THE INPUT: true; the input reads as it did. -/
def liftCountsSpec : ChangeSpec := { name := "liftCounts", fn := fun _ => fun
  | [d1, d2, d3, d4, d5] => { results := [.lit (.bool true)], args := [d1, d2, d3, d4, d5] }
  | _ => none }
def liftCountsRow : OpenClaim := { program := "ytfokealcfobnnaagreat", sum := "2ad72a6af4b81854e59d57acaf4c5cd7b406dec9f2afc542e6dfb42dc6f0bc53", func := "azimuth/azimuthlaw14.LiftCounts", spec := "liftCounts", inPlace := ["math.Float64frombits", "internal/bytealg.IndexByteString"], unfollowed := true, recurses := true, plainKeys := false, apart := false }
def LiftCountsSaid : Prop := liftCountsRow.holds Tryz.pinned (OpenSpec.ofChange liftCountsSpec)

/-- ITS FALSE NEIGHBOUR: 'it returns false'. Refute it at one input. -/
def liftCountsWrong : ChangeSpec := { name := "liftCounts", fn := fun _ => fun
  | [d1, d2, d3, d4, d5] => { results := [.lit (.bool false)], args := [d1, d2, d3, d4, d5] }
  | _ => none }
def LiftCountsWrongFalsely : Prop := liftCountsRow.holds Tryz.pinned (OpenSpec.ofChange liftCountsWrong)

/-- 'azimuthlaw14.LiftReach': WHATEVER THE INPUT: true; the input reads as it did. -/
def liftReachSpec : ChangeSpec := { name := "liftReach", fn := fun _ => fun
  | [d1, d2, d3, d4] => { results := [.lit (.bool true)], args := [d1, d2, d3, d4] }
  | _ => none }
def liftReachRow : OpenClaim := { program := "ytfokealcfobnnaagreat", sum := "2ad72a6af4b81854e59d57acaf4c5cd7b406dec9f2afc542e6dfb42dc6f0bc53", func := "azimuth/azimuthlaw14.LiftReach", spec := "liftReach", inPlace := ["math.Float64frombits", "internal/bytealg.IndexByteString"], unfollowed := true, recurses := true, plainKeys := false, apart := false }
def LiftReachSaid : Prop := liftReachRow.holds Tryz.pinned (OpenSpec.ofChange liftReachSpec)

/-- ITS FALSE NEIGHBOUR: 'it returns false'. Refute it at one input. -/
def liftReachWrong : ChangeSpec := { name := "liftReach", fn := fun _ => fun
  | [d1, d2, d3, d4] => { results := [.lit (.bool false)], args := [d1, d2, d3, d4] }
  | _ => none }
def LiftReachWrongFalsely : Prop := liftReachRow.holds Tryz.pinned (OpenSpec.ofChange liftReachWrong)

/- THE SECOND FORM. 'bulk': how many values and letters a reading holds, each counted each time it is reached (what is shared counts as often as it is met; a slice's spare places count too). A statement '..UptoSaid' is the law's where the arguments, and the package variables that the reading takes, are together of bulk at most 1048576: NARROWER than '..Said'. Prove '..Said' where nothing that the law and all that it calls make is longer than what came in: it says more and counts as full. Else prove '..UptoSaid'. A law counts once. -/
mutual
def uptoBulk {H : Type} : DataW H → Nat
  | .lit (.string bytes) => bytes.length + 1
  | .lit _ => 1
  | .nil => 1
  | .ptr d => uptoBulk d + 1
  | .slice elems spare => uptoBulkAll elems + uptoBulkAll spare + 1
  | .agg parts => uptoBulkAll parts + 1
  | .iface _ d => uptoBulk d + 1
  | .map entries => uptoBulkEntries entries + 1
  | .held _ => 1
def uptoBulkAll {H : Type} : List (DataW H) → Nat
  | [] => 0
  | d :: r => uptoBulk d + uptoBulkAll r
def uptoBulkEntries {H : Type} : List (Lit × DataW H) → Nat
  | [] => 0
  | x :: r => uptoBulkEntry x + uptoBulkEntries r
def uptoBulkEntry {H : Type} : Lit × DataW H → Nat
  | (.string bytes, d) => bytes.length + uptoBulk d + 1
  | (_, d) => uptoBulk d + 1
 end
def uptoSmall : (H : Type) → List (DataW H) → Bool := fun _ ds => decide (uptoBulkAll ds ≤ 1048576)
def OpenSpec.upto (s : _root_.Go.ChangeSpec) : _root_.Go.OpenSpec := { _root_.Go.OpenSpec.ofChange s with cond := some uptoSmall }

/-- 'azimuthlaw13.SolveAgain', WHERE WHAT IT READS IS OF BULK AT MOST 1048576: true; the input reads as it did. -/
def solveAgainUptoRow : OpenClaim := { program := "ytfokealcfobnnaagreat", sum := "2ad72a6af4b81854e59d57acaf4c5cd7b406dec9f2afc542e6dfb42dc6f0bc53", func := "azimuth/azimuthlaw13.SolveAgain", spec := "solveAgain", inPlace := ["math.Float64frombits", "internal/bytealg.IndexByteString"], unfollowed := true, recurses := true, plainKeys := false, apart := false, narrowed := true }
def SolveAgainUptoSaid : Prop := solveAgainUptoRow.holds Tryz.pinned (OpenSpec.upto solveAgainSpec)

/-- 'azimuthlaw13.SolveOrder', WHERE WHAT IT READS IS OF BULK AT MOST 1048576: true; the input reads as it did. -/
def solveOrderUptoRow : OpenClaim := { program := "ytfokealcfobnnaagreat", sum := "2ad72a6af4b81854e59d57acaf4c5cd7b406dec9f2afc542e6dfb42dc6f0bc53", func := "azimuth/azimuthlaw13.SolveOrder", spec := "solveOrder", inPlace := ["math.Float64frombits", "internal/bytealg.IndexByteString"], unfollowed := true, recurses := true, plainKeys := false, apart := false, narrowed := true }
def SolveOrderUptoSaid : Prop := solveOrderUptoRow.holds Tryz.pinned (OpenSpec.upto solveOrderSpec)

/-- 'azimuthlaw13.SolveLevels', WHERE WHAT IT READS IS OF BULK AT MOST 1048576: true; the input reads as it did. -/
def solveLevelsUptoRow : OpenClaim := { program := "ytfokealcfobnnaagreat", sum := "2ad72a6af4b81854e59d57acaf4c5cd7b406dec9f2afc542e6dfb42dc6f0bc53", func := "azimuth/azimuthlaw13.SolveLevels", spec := "solveLevels", inPlace := ["math.Float64frombits", "internal/bytealg.IndexByteString"], unfollowed := true, recurses := true, plainKeys := false, apart := false, narrowed := true }
def SolveLevelsUptoSaid : Prop := solveLevelsUptoRow.holds Tryz.pinned (OpenSpec.upto solveLevelsSpec)

/-- 'azimuthlaw13.SolveRaises', WHERE WHAT IT READS IS OF BULK AT MOST 1048576: true; the input reads as it did. -/
def solveRaisesUptoRow : OpenClaim := { program := "ytfokealcfobnnaagreat", sum := "2ad72a6af4b81854e59d57acaf4c5cd7b406dec9f2afc542e6dfb42dc6f0bc53", func := "azimuth/azimuthlaw13.SolveRaises", spec := "solveRaises", inPlace := ["math.Float64frombits", "internal/bytealg.IndexByteString"], unfollowed := true, recurses := true, plainKeys := false, apart := false, narrowed := true }
def SolveRaisesUptoSaid : Prop := solveRaisesUptoRow.holds Tryz.pinned (OpenSpec.upto solveRaisesSpec)

/-- 'azimuthlaw13.SolveTells', WHERE WHAT IT READS IS OF BULK AT MOST 1048576: true; the input reads as it did. -/
def solveTellsUptoRow : OpenClaim := { program := "ytfokealcfobnnaagreat", sum := "2ad72a6af4b81854e59d57acaf4c5cd7b406dec9f2afc542e6dfb42dc6f0bc53", func := "azimuth/azimuthlaw13.SolveTells", spec := "solveTells", inPlace := ["math.Float64frombits", "internal/bytealg.IndexByteString"], unfollowed := true, recurses := true, plainKeys := false, apart := false, narrowed := true }
def SolveTellsUptoSaid : Prop := solveTellsUptoRow.holds Tryz.pinned (OpenSpec.upto solveTellsSpec)

/-- 'azimuthlaw14.LiftApart', WHERE WHAT IT READS IS OF BULK AT MOST 1048576: true; the input reads as it did. -/
def liftApartUptoRow : OpenClaim := { program := "ytfokealcfobnnaagreat", sum := "2ad72a6af4b81854e59d57acaf4c5cd7b406dec9f2afc542e6dfb42dc6f0bc53", func := "azimuth/azimuthlaw14.LiftApart", spec := "liftApart", inPlace := ["math.Float64frombits", "internal/bytealg.IndexByteString"], unfollowed := true, recurses := true, plainKeys := false, apart := false, narrowed := true }
def LiftApartUptoSaid : Prop := liftApartUptoRow.holds Tryz.pinned (OpenSpec.upto liftApartSpec)

/-- 'azimuthlaw14.LiftRefuses', WHERE WHAT IT READS IS OF BULK AT MOST 1048576: true; the input reads as it did. -/
def liftRefusesUptoRow : OpenClaim := { program := "ytfokealcfobnnaagreat", sum := "2ad72a6af4b81854e59d57acaf4c5cd7b406dec9f2afc542e6dfb42dc6f0bc53", func := "azimuth/azimuthlaw14.LiftRefuses", spec := "liftRefuses", inPlace := ["math.Float64frombits", "internal/bytealg.IndexByteString"], unfollowed := true, recurses := true, plainKeys := false, apart := false, narrowed := true }
def LiftRefusesUptoSaid : Prop := liftRefusesUptoRow.holds Tryz.pinned (OpenSpec.upto liftRefusesSpec)

/-- 'azimuthlaw14.LiftCounts', WHERE WHAT IT READS IS OF BULK AT MOST 1048576: true; the input reads as it did. -/
def liftCountsUptoRow : OpenClaim := { program := "ytfokealcfobnnaagreat", sum := "2ad72a6af4b81854e59d57acaf4c5cd7b406dec9f2afc542e6dfb42dc6f0bc53", func := "azimuth/azimuthlaw14.LiftCounts", spec := "liftCounts", inPlace := ["math.Float64frombits", "internal/bytealg.IndexByteString"], unfollowed := true, recurses := true, plainKeys := false, apart := false, narrowed := true }
def LiftCountsUptoSaid : Prop := liftCountsUptoRow.holds Tryz.pinned (OpenSpec.upto liftCountsSpec)

/-- 'azimuthlaw14.LiftReach', WHERE WHAT IT READS IS OF BULK AT MOST 1048576: true; the input reads as it did. -/
def liftReachUptoRow : OpenClaim := { program := "ytfokealcfobnnaagreat", sum := "2ad72a6af4b81854e59d57acaf4c5cd7b406dec9f2afc542e6dfb42dc6f0bc53", func := "azimuth/azimuthlaw14.LiftReach", spec := "liftReach", inPlace := ["math.Float64frombits", "internal/bytealg.IndexByteString"], unfollowed := true, recurses := true, plainKeys := false, apart := false, narrowed := true }
def LiftReachUptoSaid : Prop := liftReachUptoRow.holds Tryz.pinned (OpenSpec.upto liftReachSpec)

end Rows
end Go.Proofs.YtfokealcfobnnaaGreat
