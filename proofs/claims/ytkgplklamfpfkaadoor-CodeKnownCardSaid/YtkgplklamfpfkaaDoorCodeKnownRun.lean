/- PROVED HERE: a call of cartouchelaw16.CodeKnown returns true, whatever the memory in which it is called: the run, by a checked interpreter (the texts whose names end in Sh..). -/
import Derived.Test.YtkgplklamfpfkaaDoorShSS
import Derived.Test.YtkgplklamfpfkaaDoorChecked
import Derived.ProofKit
namespace Go.Proofs.YtkgplklamfpfkaaDoor.CodeKnown
open Go.ChangeShapes Go.WideShapes Go.ChangeAt Go.RowKit
set_option linter.unusedVariables false
set_option maxRecDepth 100000

noncomputable def E : Sh.FEnv := Sh.envOf Tryd.prog [] [(92, .noEsc)]
theorem E_ok : E.OK := Sh.envOf_ok (fun p hp => by
    obtain rfl := List.mem_singleton.1 hp
    exact ⟨Tryd.f92, Tryd.func92, by kernel_rfl, by kernel_rfl, by kernel_rfl⟩) (by kernel_rfl) (by kernel_rfl) Tryd.checked.mixed
/-- The run. -/
theorem known_run : Sh.says E 3 1000000 6 = true := by kernel_rfl
theorem known_calls (w : World) : Calls Tryd.prog 3 #[] w fun e w' => e = .returned (.bool true) ∧ Below w.heap.size w w' :=
  Sh.closed_fast E_ok 3 1000000 6 known_run w
end Go.Proofs.YtkgplklamfpfkaaDoor.CodeKnown
