/- PROVED HERE: cartouchelaw13.PlanKnown returns true, whatever the memory in which it is called; and its tied card: the two tables of unicode/utf8 that the row lists are tied to the program's text. The proof runs the law by a checked interpreter (the texts whose names end in Sh..), whose every step is proved sound against the model. -/
import Derived.Test.YtkgplklamfpfkaaDoorShSM
import Derived.Test.YtkgplklamfpfkaaDoorCards
import Derived.Test.YtkgplklamfpfkaaDoorTie
import Derived.ProofKit
import Derived.OpenShut
import Derived.LaidMore
import Derived.Lay
import Derived.SevenTiedAt
import Derived.Stop.Joined
namespace Go.Proofs.YtkgplklamfpfkaaDoor.PlanKnown
open Go.ChangeShapes Go.WideShapes Go.ChangeAt Go.RowKit
set_option linter.unusedVariables false
set_option maxRecDepth 100000

noncomputable def E : Sh.FEnv := Sh.envOf Tryd.prog [34, 54] [(132, .count)]
theorem E_ok : E.OK := Sh.envOf_ok (fun p hp => by
    obtain rfl := List.mem_singleton.1 hp
    exact ⟨Tryd.f132, Tryd.func132, by kernel_rfl, by kernel_rfl, by kernel_rfl⟩) (by kernel_rfl) (by kernel_rfl) Tryd.checked.mixed
/-- The run. -/
theorem known_run : Sh.saysB (Sh.ev E (Sh.drawnE E) 1000000 (.call 4 [] (Sh.H0 6) none)) true = true := by kernel_rfl
theorem known_calls (w : World) : Calls Tryd.prog 4 #[] w fun e w' => e = .returned (.bool true) ∧ Below w.heap.size w w' :=
  Sh.closed_call E_ok 4 1000000 6 known_run w
theorem own : ownKnob Tryd.prog.godebug = none := by kernel_rfl
theorem laidOut : laidOutB Tryd.prog = true := by kernel_rfl
theorem lifted (os : Os) (started : os.Started) (H : Type) (enc : TypeId × Value → H) :
    ReturnsInHanded {} Tryd.checked os 4 .any (fun w args => (Rows.planKnownSpec.pre enc Tryd.prog Tryd.f4 Rows.planKnownRow.domain false w args ∧ laidMetH Tryd.prog Rows.planKnownRow.laid w) ∧ sizedMet enc Tryd.prog Tryd.f4 (OpenSpec.ofChange Rows.planKnownSpec) false w args)
      (Rows.planKnownSpec.post enc Tryd.prog Tryd.f4 false true false false) := by
  refine returnsInHanded_of_change_and (C := Tryd.checked) (X := fun w _ => laidMetH Tryd.prog Rows.planKnownRow.laid w) (fun _ _ _ hh h => h.of_heap hh) own started (by kernel_rfl) Tryd.func4
    (ChangeSpec.witness_shaped (enc := enc) (C := Tryd.checked) (os := os) (X := fun w _ => laidMetH Tryd.prog Rows.planKnownRow.laid w) false (World.laidAll Tryd.prog os Rows.planKnownRow.laid) #[] 8 (World.laidAll_os _ _ _)
      (World.shaped_of_ZipB (by kernel_rfl) (by kernel_rfl)) (by kernel_rfl) (by kernel_rfl) (by kernel_rfl)
      (by rw [MakeChecks.laidMetH_plain _ _ _ (by kernel_rfl)]; exact laidMet_laidAll _ (by kernel_rfl) (by kernel_rfl))) ?_
  intro W base args ds gs before hval0 hW hc _ hL _
  have hW' := hW
  obtain ⟨p, q, hA0, hV, rfl, _, _⟩ := hW
  have hA : DataW.TrodAll enc Tryd.prog W 0 (fun _ => true) true Tryd.f4.params.toList args.toList ds p := hA0
  rw [Tryd.params4] at hA
  obtain ⟨rfl, rfl, rfl⟩ := trodAll_none hA
  obtain ⟨rfl, rfl⟩ := trodVars_none hV
  simp only [List.append_nil] at hW'
  refine (known_calls W).mono fun e W' ⟨he, hb⟩ => ?_
  subst he
  exact ⟨_, rfl, ⟨_, _, _, [], [], [], hW', trodAll_mk1 (shut_bool Tryd.underlying4 _), trodAll_mk0, rfl, hb.frame _, fun h => by cases h⟩⟩
theorem holds : Rows.PlanKnownSaid :=
  OpenClaim.holds_of_wide 4 Tryd.f4 rfl rfl rfl rfl rfl rfl rfl ⟨rfl, rfl, rfl, rfl, rfl⟩ rfl rfl rfl rfl rfl (by kernel_rfl) Tryd.func4 (by kernel_rfl)
    (of_decide_eq_true (by kernel_rfl)) (by unfold Func.isWrapper; first | (rw [if_pos (by decide +kernel)]; kernel_rfl) | (rw [if_neg (by decide +kernel)]; exact ⟨rfl, rfl⟩))
    (fun os started H enc _ => lifted os started H enc)
theorem card_holds : Rows.PlanKnownCardSaid :=
  Claim7.holds_tied_plain_at .later [] [.data, .pinned] true (true, "703ab7aef45f0ef4be79f79e8387b6dc85726b0e7e32f77be5421fc1e5da0188") false holds (fun _ h => by cases h) (by kernel_rfl) (fun _ h => by cases h) planKnown_row_tie rfl ⟨rfl, rfl⟩ (by kernel_rfl) rfl
    (fun f fn hf hfn => by
      obtain rfl : f = 4 := Option.some.inj ((show Tryd.prog.funcNamed "cartouche/cartouchelaw13.PlanKnown" = some 4 by kernel_rfl).symm.trans hf) |>.symm
      obtain rfl : fn = Tryd.f4 := (Option.some.inj (Tryd.func4.symm.trans hfn)).symm
      exact ⟨by kernel_rfl, fun j t ht => by
        rw [Tryd.params4] at ht
        simp at ht⟩)
    (by kernel_rfl)
#print axioms card_holds
end Go.Proofs.YtkgplklamfpfkaaDoor.PlanKnown
