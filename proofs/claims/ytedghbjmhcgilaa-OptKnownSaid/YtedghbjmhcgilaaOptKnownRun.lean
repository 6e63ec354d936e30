/- PROVED HERE: a call of cartouchelaw14.OptKnown returns true, whatever the memory in which it is called: the run, by a checked interpreter (the texts whose names end in Sh..). -/
import Derived.Test.YtedghbjmhcgilaaShSS
import Derived.Test.YtedghbjmhcgilaaChecked
import Derived.ProofKit
namespace Go.Proofs.Ytedghbjmhcgilaa.OptKnown
open Go.ChangeShapes Go.WideShapes Go.ChangeAt Go.RowKit
set_option linter.unusedVariables false
set_option maxRecDepth 100000

noncomputable def E : Sh.FEnv := Sh.envOf Try.prog [35, 37] []
theorem E_ok : E.OK := Sh.envOf_ok (fun p hp => by cases hp) (by kernel_rfl) (by kernel_rfl) Try.checked.mixed
/-- The run. -/
theorem known_run : Sh.says E 5 1000000 0 = true := by kernel_rfl
theorem known_calls (w : World) : Calls Try.prog 5 #[] w fun e w' => e = .returned (.bool true) ∧ Below w.heap.size w w' :=
  Sh.closed_fast E_ok 5 1000000 0 known_run w
end Go.Proofs.Ytedghbjmhcgilaa.OptKnown
