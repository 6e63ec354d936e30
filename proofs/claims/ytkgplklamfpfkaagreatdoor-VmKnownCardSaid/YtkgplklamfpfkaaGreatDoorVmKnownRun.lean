/- PROVED HERE: a call of cartouchelaw15.VmKnown returns true, whatever the memory in which it is called: the run, by a checked interpreter (the texts whose names end in Sh..). -/
import Derived.Test.YtkgplklamfpfkaaGreatDoorShSS
import Derived.Test.YtkgplklamfpfkaaGreatDoorChecked
import Derived.ProofKit
namespace Go.Proofs.YtkgplklamfpfkaaGreatDoor.VmKnown
open Go.ChangeShapes Go.WideShapes Go.ChangeAt Go.RowKit
set_option linter.unusedVariables false
set_option maxRecDepth 100000

noncomputable def E : Sh.FEnv := Sh.envOf Tryz.prog [] []
theorem E_ok : E.OK := Sh.envOf_ok (fun p hp => by cases hp) (by kernel_rfl) (by kernel_rfl) Tryz.checked.mixed
/-- The run. -/
theorem known_run : Sh.says E 3 1000000 8 = true := by kernel_rfl
theorem known_calls (w : World) : Calls Tryz.prog 3 #[] w fun e w' => e = .returned (.bool true) ∧ Below w.heap.size w w' :=
  Sh.closed_fast E_ok 3 1000000 8 known_run w
end Go.Proofs.YtkgplklamfpfkaaGreatDoor.VmKnown
