/- PROVED HERE: a call of cartouchelaw12.SelfKnown returns true, whatever the memory in which it is called: the run, by a checked interpreter (the texts whose names end in Sh..). -/
import Derived.Test.YtkgplklamfpfkaaGreatDoorShSS
import Derived.Test.YtkgplklamfpfkaaGreatDoorChecked
import Derived.ProofKit
namespace Go.Proofs.YtkgplklamfpfkaaGreatDoor.SelfKnown
open Go.ChangeShapes Go.WideShapes Go.ChangeAt Go.RowKit
set_option linter.unusedVariables false
set_option maxRecDepth 100000

noncomputable def E : Sh.FEnv := Sh.envOf Tryz.prog [107, 111] [(370, .count)]
theorem E_ok : E.OK := Sh.envOf_ok (fun p hp => by
    obtain rfl := List.mem_singleton.1 hp
    exact ⟨Tryz.f370, Tryz.func370, by kernel_rfl, by kernel_rfl, by kernel_rfl⟩) (by kernel_rfl) (by kernel_rfl) Tryz.checked.mixed
/-- The run. -/
theorem known_run : Sh.says E 4 1000000 8 = true := by kernel_rfl
theorem known_calls (w : World) : Calls Tryz.prog 4 #[] w fun e w' => e = .returned (.bool true) ∧ Below w.heap.size w w' :=
  Sh.closed_fast E_ok 4 1000000 8 known_run w
end Go.Proofs.YtkgplklamfpfkaaGreatDoor.SelfKnown
