/-
  DERIVED. GIVEN WITH THE SEED: THE CARDS: each row of YtohgenhjdgdkgaaGreatDoorRows.lean that lists a variable, with what it lists TIED to the program's text (the seventh form; the later family's looks); each row that meets fmt, with fmt's text TOLD by the authors' own Lean function (tested against real Go, not proved from fmt's source: count such statements apart). THE CARD IS WHAT COUNTS. Prove the row's statement (the work); the ties are given (YtohgenhjdgdkgaaGreatDoorTie.lean); close each card by the builder's one call (the guide's Derived/Test/ToyasCard.lean, 'card_holds'). Laid BY PROGRAM, IN A SANDBOX (cutbox-door.mjs). By AI agents, Wed Nov 11 2026. No macro, syntax, notation, axiom, sorry.
-/
import Derived.Test.YtohgenhjdgdkgaaGreatDoorRows
import GoSem.ClaimSeven
namespace Go.Proofs.YtohgenhjdgdkgaaGreatDoor
namespace Rows

/-- THE TIED CARD OF 'cartouchelaw11.TextKnown'. -/
def textKnownCard : Claim7 := { stood := { row := textKnownRow, standIns := [], harness := (true, "b833f11a7d865a96e072293fa7156821c4166394a84553cc93b7ab431b1fcb82"), looks := true }, kinds := [], alts := [], laidByText := true, laidKinds := [.data, .data, .data, .data, .sentinel, .sentinel, .pinned], laidTests := true, laidLooks := .later }
def TextKnownCardSaid : Prop := Claim7.holds Tryz.pinned (.plain (OpenSpec.ofChange textKnownSpec)) textKnownCard

/-- THE SECOND FORM's CARD OF 'cartouchelaw11.TextKnown'. -/
def textKnownUptoCard : Claim7 := { stood := { row := textKnownUptoRow, standIns := [], harness := (true, "b833f11a7d865a96e072293fa7156821c4166394a84553cc93b7ab431b1fcb82"), looks := true }, kinds := [], alts := [], laidByText := true, laidKinds := [.data, .data, .data, .data, .sentinel, .sentinel, .pinned], laidTests := true, laidLooks := .later }
def TextKnownUptoCardSaid : Prop := Claim7.holds Tryz.pinned (.plain (OpenSpec.upto textKnownSpec)) textKnownUptoCard
end Rows
end Go.Proofs.YtohgenhjdgdkgaaGreatDoor
