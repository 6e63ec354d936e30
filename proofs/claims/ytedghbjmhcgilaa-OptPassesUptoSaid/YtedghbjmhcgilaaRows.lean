/-
  No cell of these rows narrows 'for every input' (looked for: loops, veiled, ifaces, maps, wideKeys, modest, calm, conditions, laid).
  DERIVED. THE GIVEN ROWS OF THIS SEAT. 5 by the template 'for every input the law returns true; each argument reads behind the call as it read before'; 0 by the template 'total and deterministic' (their statements: YtedghbjmhcgilaaTotals.lean).
  GIVEN WITH THE SEED: the statements are not yours to turn. If you find one false, say at which input.
  Laid BY PROGRAM, IN A SANDBOX (cutbox-rows.mjs): the forced cells as the released guide's own fill.sh prints them over the translation b82087991528ed09… (all of the seat's roots in one cut). By AI agents, Wed Nov 11 2026. No macro, syntax, notation, axiom, sorry.
-/
import Derived.Test.YtedghbjmhcgilaaChecked
import GoSem.Claim
import GoSem.ClaimJoined
import GoSem.ClaimMapViews
import Derived.JoinedTies
import Derived.KernelRfl
namespace Go.Proofs.Ytedghbjmhcgilaa
/- THE CELL 'sum', in the pinned program and in every row, IS THE sha256 OF THE DUMP (.gsa) THAT YtedghbjmhcgilaaProg.lean LOADS. Nothing in Lean hashes anything: it is a label: what it is worth is what the hold of that sum in a sandbox is worth. -/
noncomputable def Try.pinned : Pinned := { name := "ytedghbjmhcgilaa", sum := "b82087991528ed09bfcf2226d7ccc71211b2ac0448f8b8eb9a29466158d7da27", checked := Try.checked }
namespace Rows
def none {H : Type} : Left H := { results := [], args := [] }

/-- 'cartouchelaw14.OptPasses': WHATEVER THE INPUT: true; the input reads as it did. -/
def optPassesSpec : ChangeSpec := { name := "optPasses", fn := fun _ => fun
  | [d1, d2] => { results := [.lit (.bool true)], args := [d1, d2] }
  | _ => none }
def optPassesRow : OpenClaim := { program := "ytedghbjmhcgilaa", sum := "b82087991528ed09bfcf2226d7ccc71211b2ac0448f8b8eb9a29466158d7da27", func := "cartouche/cartouchelaw14.OptPasses", spec := "optPasses", unfollowed := true, recurses := true, apart := false }
def OptPassesSaid : Prop := optPassesRow.holds Try.pinned (OpenSpec.ofChange optPassesSpec)

/-- ITS FALSE NEIGHBOUR: 'it returns false'. Refute it at one input. -/
def optPassesWrong : ChangeSpec := { name := "optPasses", fn := fun _ => fun
  | [d1, d2] => { results := [.lit (.bool false)], args := [d1, d2] }
  | _ => none }
def OptPassesWrongFalsely : Prop := optPassesRow.holds Try.pinned (OpenSpec.ofChange optPassesWrong)

/-- 'cartouchelaw14.OptKept': WHATEVER THE INPUT: true; the input reads as it did. -/
def optKeptSpec : ChangeSpec := { name := "optKept", fn := fun _ => fun
  | [d1, d2] => { results := [.lit (.bool true)], args := [d1, d2] }
  | _ => none }
def optKeptRow : OpenClaim := { program := "ytedghbjmhcgilaa", sum := "b82087991528ed09bfcf2226d7ccc71211b2ac0448f8b8eb9a29466158d7da27", func := "cartouche/cartouchelaw14.OptKept", spec := "optKept", unfollowed := true, recurses := true, apart := false }
def OptKeptSaid : Prop := optKeptRow.holds Try.pinned (OpenSpec.ofChange optKeptSpec)

/-- ITS FALSE NEIGHBOUR: 'it returns false'. Refute it at one input. -/
def optKeptWrong : ChangeSpec := { name := "optKept", fn := fun _ => fun
  | [d1, d2] => { results := [.lit (.bool false)], args := [d1, d2] }
  | _ => none }
def OptKeptWrongFalsely : Prop := optKeptRow.holds Try.pinned (OpenSpec.ofChange optKeptWrong)

/-- 'cartouchelaw14.OptKnown': WHATEVER THE INPUT: true; the input reads as it did. -/
def optKnownSpec : ChangeSpec := { name := "optKnown", fn := fun _ => fun
  | [] => { results := [.lit (.bool true)], args := [] }
  | _ => none }
def optKnownRow : OpenClaim := { program := "ytedghbjmhcgilaa", sum := "b82087991528ed09bfcf2226d7ccc71211b2ac0448f8b8eb9a29466158d7da27", func := "cartouche/cartouchelaw14.OptKnown", spec := "optKnown", unfollowed := true, recurses := true, apart := false }
def OptKnownSaid : Prop := optKnownRow.holds Try.pinned (OpenSpec.ofChange optKnownSpec)

/-- ITS FALSE NEIGHBOUR: 'it returns false'. Refute it at one input. -/
def optKnownWrong : ChangeSpec := { name := "optKnown", fn := fun _ => fun
  | [] => { results := [.lit (.bool false)], args := [] }
  | _ => none }
def OptKnownWrongFalsely : Prop := optKnownRow.holds Try.pinned (OpenSpec.ofChange optKnownWrong)

/-- 'cartouchelaw14.OptPrograms': WHATEVER THE INPUT: true; the input reads as it did. -/
def optProgramsSpec : ChangeSpec := { name := "optPrograms", fn := fun _ => fun
  | [d] => { results := [.lit (.bool true)], args := [d] }
  | _ => none }
def optProgramsRow : OpenClaim := { program := "ytedghbjmhcgilaa", sum := "b82087991528ed09bfcf2226d7ccc71211b2ac0448f8b8eb9a29466158d7da27", func := "cartouche/cartouchelaw14.OptPrograms", spec := "optPrograms", unfollowed := true, recurses := true, apart := false }
def OptProgramsSaid : Prop := optProgramsRow.holds Try.pinned (OpenSpec.ofChange optProgramsSpec)

/-- ITS FALSE NEIGHBOUR: 'it returns false'. Refute it at one input. -/
def optProgramsWrong : ChangeSpec := { name := "optPrograms", fn := fun _ => fun
  | [d] => { results := [.lit (.bool false)], args := [d] }
  | _ => none }
def OptProgramsWrongFalsely : Prop := optProgramsRow.holds Try.pinned (OpenSpec.ofChange optProgramsWrong)

/-- 'cartouchelaw14.OptValid': WHATEVER THE INPUT: true; the input reads as it did. -/
def optValidSpec : ChangeSpec := { name := "optValid", fn := fun _ => fun
  | [d1, d2] => { results := [.lit (.bool true)], args := [d1, d2] }
  | _ => none }
def optValidRow : OpenClaim := { program := "ytedghbjmhcgilaa", sum := "b82087991528ed09bfcf2226d7ccc71211b2ac0448f8b8eb9a29466158d7da27", func := "cartouche/cartouchelaw14.OptValid", spec := "optValid", unfollowed := true, recurses := true, apart := false }
def OptValidSaid : Prop := optValidRow.holds Try.pinned (OpenSpec.ofChange optValidSpec)

/-- ITS FALSE NEIGHBOUR: 'it returns false'. Refute it at one input. -/
def optValidWrong : ChangeSpec := { name := "optValid", fn := fun _ => fun
  | [d1, d2] => { results := [.lit (.bool false)], args := [d1, d2] }
  | _ => none }
def OptValidWrongFalsely : Prop := optValidRow.holds Try.pinned (OpenSpec.ofChange optValidWrong)

/- THE SECOND FORM. 'bulk': how many values and letters a reading holds, each counted each time it is reached (what is shared counts as often as it is met; a slice's spare places count too). A statement '..UptoSaid' is the law's where the arguments, and the package variables that the reading takes, are together of bulk at most 1048576: NARROWER than '..Said'. Prove '..Said' where nothing that the law and all that it calls make is longer than what came in: it says more and counts as full. Else prove '..UptoSaid'. A law counts once. -/
mutual
def uptoBulk {H : Type} : DataW H → Nat
  | .lit (.string bytes) => bytes.length + 1
  | .lit _ => 1
  | .nil => 1
  | .ptr d => uptoBulk d + 1
  | .slice elems spare => uptoBulkAll elems + uptoBulkAll spare + 1
  | .agg parts => uptoBulkAll parts + 1
  | .iface _ d => uptoBulk d + 1
  | .map entries => uptoBulkEntries entries + 1
  | .held _ => 1
def uptoBulkAll {H : Type} : List (DataW H) → Nat
  | [] => 0
  | d :: r => uptoBulk d + uptoBulkAll r
def uptoBulkEntries {H : Type} : List (Lit × DataW H) → Nat
  | [] => 0
  | x :: r => uptoBulkEntry x + uptoBulkEntries r
def uptoBulkEntry {H : Type} : Lit × DataW H → Nat
  | (.string bytes, d) => bytes.length + uptoBulk d + 1
  | (_, d) => uptoBulk d + 1
 end
def uptoSmall : (H : Type) → List (DataW H) → Bool := fun _ ds => decide (uptoBulkAll ds ≤ 1048576)
def OpenSpec.upto (s : _root_.Go.ChangeSpec) : _root_.Go.OpenSpec := { _root_.Go.OpenSpec.ofChange s with cond := some uptoSmall }

/-- 'cartouchelaw14.OptPasses', WHERE WHAT IT READS IS OF BULK AT MOST 1048576: true; the input reads as it did. -/
def optPassesUptoRow : OpenClaim := { program := "ytedghbjmhcgilaa", sum := "b82087991528ed09bfcf2226d7ccc71211b2ac0448f8b8eb9a29466158d7da27", func := "cartouche/cartouchelaw14.OptPasses", spec := "optPasses", unfollowed := true, recurses := true, apart := false, narrowed := true }
def OptPassesUptoSaid : Prop := optPassesUptoRow.holds Try.pinned (OpenSpec.upto optPassesSpec)

/-- 'cartouchelaw14.OptKept', WHERE WHAT IT READS IS OF BULK AT MOST 1048576: true; the input reads as it did. -/
def optKeptUptoRow : OpenClaim := { program := "ytedghbjmhcgilaa", sum := "b82087991528ed09bfcf2226d7ccc71211b2ac0448f8b8eb9a29466158d7da27", func := "cartouche/cartouchelaw14.OptKept", spec := "optKept", unfollowed := true, recurses := true, apart := false, narrowed := true }
def OptKeptUptoSaid : Prop := optKeptUptoRow.holds Try.pinned (OpenSpec.upto optKeptSpec)

/-- 'cartouchelaw14.OptKnown', WHERE WHAT IT READS IS OF BULK AT MOST 1048576: true; the input reads as it did. -/
def optKnownUptoRow : OpenClaim := { program := "ytedghbjmhcgilaa", sum := "b82087991528ed09bfcf2226d7ccc71211b2ac0448f8b8eb9a29466158d7da27", func := "cartouche/cartouchelaw14.OptKnown", spec := "optKnown", unfollowed := true, recurses := true, apart := false, narrowed := true }
def OptKnownUptoSaid : Prop := optKnownUptoRow.holds Try.pinned (OpenSpec.upto optKnownSpec)

/-- 'cartouchelaw14.OptPrograms', WHERE WHAT IT READS IS OF BULK AT MOST 1048576: true; the input reads as it did. -/
def optProgramsUptoRow : OpenClaim := { program := "ytedghbjmhcgilaa", sum := "b82087991528ed09bfcf2226d7ccc71211b2ac0448f8b8eb9a29466158d7da27", func := "cartouche/cartouchelaw14.OptPrograms", spec := "optPrograms", unfollowed := true, recurses := true, apart := false, narrowed := true }
def OptProgramsUptoSaid : Prop := optProgramsUptoRow.holds Try.pinned (OpenSpec.upto optProgramsSpec)

/-- 'cartouchelaw14.OptValid', WHERE WHAT IT READS IS OF BULK AT MOST 1048576: true; the input reads as it did. -/
def optValidUptoRow : OpenClaim := { program := "ytedghbjmhcgilaa", sum := "b82087991528ed09bfcf2226d7ccc71211b2ac0448f8b8eb9a29466158d7da27", func := "cartouche/cartouchelaw14.OptValid", spec := "optValid", unfollowed := true, recurses := true, apart := false, narrowed := true }
def OptValidUptoSaid : Prop := optValidUptoRow.holds Try.pinned (OpenSpec.upto optValidSpec)

end Rows
end Go.Proofs.Ytedghbjmhcgilaa
