/- PROVED HERE: a call of cartouchelaw22.QueryKnown returns true, whatever the memory in which it is called: the run, by a checked interpreter (the texts whose names end in Sh..). -/
import Derived.Test.YtkgplklamfpfkaaGreatDoorShSS
import Derived.Test.YtkgplklamfpfkaaGreatDoorChecked
import Derived.ProofKit
namespace Go.Proofs.YtkgplklamfpfkaaGreatDoor.QueryKnown
open Go.ChangeShapes Go.WideShapes Go.ChangeAt Go.RowKit
set_option linter.unusedVariables false
set_option maxRecDepth 100000

noncomputable def E : Sh.FEnv := Sh.envOf Tryz.prog [66] [(370, .count), (269, .idxByte)]
theorem E_ok : E.OK := Sh.envOf_ok (fun p hp => by
    simp only [List.mem_cons, List.not_mem_nil, or_false] at hp
    rcases hp with rfl | rfl
    · exact ⟨Tryz.f370, Tryz.func370, by kernel_rfl, by kernel_rfl, by kernel_rfl⟩
    · exact ⟨Tryz.f269, Tryz.func269, by kernel_rfl, by kernel_rfl, by kernel_rfl⟩) (by kernel_rfl) (by kernel_rfl) Tryz.checked.mixed
/-- The run. -/
theorem known_run : Sh.says E 6 1000000 8 = true := by kernel_rfl
theorem known_calls (w : World) : Calls Tryz.prog 6 #[] w fun e w' => e = .returned (.bool true) ∧ Below w.heap.size w w' :=
  Sh.closed_fast E_ok 6 1000000 8 known_run w
end Go.Proofs.YtkgplklamfpfkaaGreatDoor.QueryKnown
