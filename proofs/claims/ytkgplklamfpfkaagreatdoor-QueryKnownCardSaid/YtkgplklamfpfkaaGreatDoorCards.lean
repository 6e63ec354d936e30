/-
  DERIVED. GIVEN WITH THE SEED: THE CARDS: each row of YtkgplklamfpfkaaGreatDoorRows.lean that lists a variable, with what it lists TIED to the program's text (the seventh form; the later family's looks); each row that meets fmt, with fmt's text TOLD by the authors' own Lean function (tested against real Go, not proved from fmt's source: count such statements apart). THE CARD IS WHAT COUNTS. Prove the row's statement (the work); the ties are given (YtkgplklamfpfkaaGreatDoorTie.lean); close each card by the builder's one call (the guide's Derived/Test/ToyasCard.lean, 'card_holds'). Laid BY PROGRAM, IN A SANDBOX (cutbox-door.mjs). By AI agents, Wed Nov 11 2026. No macro, syntax, notation, axiom, sorry.
-/
import Derived.Test.YtkgplklamfpfkaaGreatDoorRows
import GoSem.ClaimSeven
namespace Go.Proofs.YtkgplklamfpfkaaGreatDoor
namespace Rows

/-- THE TIED CARD OF 'cartouchelaw15.VmKnown'. -/
def vmKnownCard : Claim7 := { stood := { row := vmKnownRow, standIns := [], harness := (true, "7d68479813fab759e93f3654d6c7cd31114c00b2a441a27abc787dd88c936717"), looks := true }, kinds := [], alts := [], laidByText := true, laidKinds := [.data, .pinned], laidTests := true, laidLooks := .later }
def VmKnownCardSaid : Prop := Claim7.holds Tryz.pinned (.plain (OpenSpec.ofChange vmKnownSpec)) vmKnownCard

/-- THE TIED CARD OF 'cartouchelaw12.SelfKnown'. -/
def selfKnownCard : Claim7 := { stood := { row := selfKnownRow, standIns := [], harness := (true, "7d68479813fab759e93f3654d6c7cd31114c00b2a441a27abc787dd88c936717"), looks := true }, kinds := [], alts := [], laidByText := true, laidKinds := [.data, .pinned], laidTests := true, laidLooks := .later }
def SelfKnownCardSaid : Prop := Claim7.holds Tryz.pinned (.plain (OpenSpec.ofChange selfKnownSpec)) selfKnownCard

/-- THE TIED CARD OF 'cartouchelaw11.TextKnown'. -/
def textKnownCard : Claim7 := { stood := { row := textKnownRow, standIns := [], harness := (true, "7d68479813fab759e93f3654d6c7cd31114c00b2a441a27abc787dd88c936717"), looks := true }, kinds := [], alts := [], laidByText := true, laidKinds := [.data, .data, .data, .data, .sentinel, .sentinel, .pinned], laidTests := true, laidLooks := .later }
def TextKnownCardSaid : Prop := Claim7.holds Tryz.pinned (.plain (OpenSpec.ofChange textKnownSpec)) textKnownCard

/-- THE TIED CARD OF 'cartouchelaw22.QueryKnown'. -/
def queryKnownCard : Claim7 := { stood := { row := queryKnownRow, standIns := [], harness := (true, "7d68479813fab759e93f3654d6c7cd31114c00b2a441a27abc787dd88c936717"), looks := true }, kinds := [], alts := [], laidByText := true, laidKinds := [.data, .data, .data, .data, .sentinel, .sentinel, .pinned], laidTests := true, laidLooks := .later }
def QueryKnownCardSaid : Prop := Claim7.holds Tryz.pinned (.plain (OpenSpec.ofChange queryKnownSpec)) queryKnownCard

/-- THE SECOND FORM's CARD OF 'cartouchelaw15.VmKnown'. -/
def vmKnownUptoCard : Claim7 := { stood := { row := vmKnownUptoRow, standIns := [], harness := (true, "7d68479813fab759e93f3654d6c7cd31114c00b2a441a27abc787dd88c936717"), looks := true }, kinds := [], alts := [], laidByText := true, laidKinds := [.data, .pinned], laidTests := true, laidLooks := .later }
def VmKnownUptoCardSaid : Prop := Claim7.holds Tryz.pinned (.plain (OpenSpec.upto vmKnownSpec)) vmKnownUptoCard

/-- THE SECOND FORM's CARD OF 'cartouchelaw12.SelfKnown'. -/
def selfKnownUptoCard : Claim7 := { stood := { row := selfKnownUptoRow, standIns := [], harness := (true, "7d68479813fab759e93f3654d6c7cd31114c00b2a441a27abc787dd88c936717"), looks := true }, kinds := [], alts := [], laidByText := true, laidKinds := [.data, .pinned], laidTests := true, laidLooks := .later }
def SelfKnownUptoCardSaid : Prop := Claim7.holds Tryz.pinned (.plain (OpenSpec.upto selfKnownSpec)) selfKnownUptoCard

/-- THE SECOND FORM's CARD OF 'cartouchelaw11.TextKnown'. -/
def textKnownUptoCard : Claim7 := { stood := { row := textKnownUptoRow, standIns := [], harness := (true, "7d68479813fab759e93f3654d6c7cd31114c00b2a441a27abc787dd88c936717"), looks := true }, kinds := [], alts := [], laidByText := true, laidKinds := [.data, .data, .data, .data, .sentinel, .sentinel, .pinned], laidTests := true, laidLooks := .later }
def TextKnownUptoCardSaid : Prop := Claim7.holds Tryz.pinned (.plain (OpenSpec.upto textKnownSpec)) textKnownUptoCard

/-- THE SECOND FORM's CARD OF 'cartouchelaw22.QueryKnown'. -/
def queryKnownUptoCard : Claim7 := { stood := { row := queryKnownUptoRow, standIns := [], harness := (true, "7d68479813fab759e93f3654d6c7cd31114c00b2a441a27abc787dd88c936717"), looks := true }, kinds := [], alts := [], laidByText := true, laidKinds := [.data, .data, .data, .data, .sentinel, .sentinel, .pinned], laidTests := true, laidLooks := .later }
def QueryKnownUptoCardSaid : Prop := Claim7.holds Tryz.pinned (.plain (OpenSpec.upto queryKnownSpec)) queryKnownUptoCard
end Rows
end Go.Proofs.YtkgplklamfpfkaaGreatDoor
