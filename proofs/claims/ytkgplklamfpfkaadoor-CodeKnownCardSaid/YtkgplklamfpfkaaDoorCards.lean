/-
  DERIVED. GIVEN WITH THE SEED: THE CARDS: each row of YtkgplklamfpfkaaDoorRows.lean that lists a variable, with what it lists TIED to the program's text (the seventh form; the later family's looks); each row that meets fmt, with fmt's text TOLD by the authors' own Lean function (tested against real Go, not proved from fmt's source: count such statements apart). THE CARD IS WHAT COUNTS. Prove the row's statement (the work); the ties are given (YtkgplklamfpfkaaDoorTie.lean); close each card by the builder's one call (the guide's Derived/Test/ToyasCard.lean, 'card_holds'). Laid BY PROGRAM, IN A SANDBOX (cutbox-door.mjs). By AI agents, Wed Nov 11 2026. No macro, syntax, notation, axiom, sorry.
-/
import Derived.Test.YtkgplklamfpfkaaDoorRows
import GoSem.ClaimSeven
namespace Go.Proofs.YtkgplklamfpfkaaDoor
namespace Rows

/-- THE TIED CARD OF 'cartouchelaw16.CodeKnown'. -/
def codeKnownCard : Claim7 := { stood := { row := codeKnownRow, standIns := [], harness := (true, "703ab7aef45f0ef4be79f79e8387b6dc85726b0e7e32f77be5421fc1e5da0188"), looks := false }, kinds := [], alts := [], laidByText := true, laidKinds := [.data, .data, .data], laidTests := true, laidLooks := .later }
def CodeKnownCardSaid : Prop := Claim7.holds Tryd.pinned (.plain (OpenSpec.ofChange codeKnownSpec)) codeKnownCard

/-- THE TIED CARD OF 'cartouchelaw13.PlanKnown'. -/
def planKnownCard : Claim7 := { stood := { row := planKnownRow, standIns := [], harness := (true, "703ab7aef45f0ef4be79f79e8387b6dc85726b0e7e32f77be5421fc1e5da0188"), looks := false }, kinds := [], alts := [], laidByText := true, laidKinds := [.data, .pinned], laidTests := true, laidLooks := .later }
def PlanKnownCardSaid : Prop := Claim7.holds Tryd.pinned (.plain (OpenSpec.ofChange planKnownSpec)) planKnownCard

/-- THE SECOND FORM's CARD OF 'cartouchelaw16.CodeKnown'. -/
def codeKnownUptoCard : Claim7 := { stood := { row := codeKnownUptoRow, standIns := [], harness := (true, "703ab7aef45f0ef4be79f79e8387b6dc85726b0e7e32f77be5421fc1e5da0188"), looks := false }, kinds := [], alts := [], laidByText := true, laidKinds := [.data, .data, .data], laidTests := true, laidLooks := .later }
def CodeKnownUptoCardSaid : Prop := Claim7.holds Tryd.pinned (.plain (OpenSpec.upto codeKnownSpec)) codeKnownUptoCard

/-- THE SECOND FORM's CARD OF 'cartouchelaw13.PlanKnown'. -/
def planKnownUptoCard : Claim7 := { stood := { row := planKnownUptoRow, standIns := [], harness := (true, "703ab7aef45f0ef4be79f79e8387b6dc85726b0e7e32f77be5421fc1e5da0188"), looks := false }, kinds := [], alts := [], laidByText := true, laidKinds := [.data, .pinned], laidTests := true, laidLooks := .later }
def PlanKnownUptoCardSaid : Prop := Claim7.holds Tryd.pinned (.plain (OpenSpec.upto planKnownSpec)) planKnownUptoCard
end Rows
end Go.Proofs.YtkgplklamfpfkaaDoor
