/- PROVED HERE: a call of cartouchelaw11.TextKnown returns true, in any memory in which the table of the powers of ten (internal/strconv.uint64pow10) stands as the row lists it: the run, by a checked interpreter (the texts whose names end in Sh..). -/
import Derived.Test.YtohgenhjdgdkgaaGreatDoorShST
import Derived.Test.YtohgenhjdgdkgaaGreatDoorTextKnownIns
import Derived.Test.YtohgenhjdgdkgaaGreatDoorRows
import Derived.Lib.LaidTab
import Derived.MakeChecks
import Derived.Test.YtohgenhjdgdkgaaGreatDoorChecked
import Derived.ProofKit
namespace Go.Proofs.YtohgenhjdgdkgaaGreatDoor.TextKnown
open Go.ChangeShapes Go.WideShapes Go.ChangeAt Go.RowKit
set_option linter.unusedVariables false
set_option maxRecDepth 100000

noncomputable def E : Sh.FEnv := Sh.envOf Tryz.prog [44] [(171, .count), (108, .idxByte), (129, .noEsc)] [(80, 26), (116, 31)]
theorem E_ok : E.OK := Sh.envOf_ok (fun p hp => by
    simp only [List.mem_cons, List.not_mem_nil, or_false] at hp
    rcases hp with rfl | rfl | rfl
    · exact ⟨Tryz.f171, Tryz.func171, by kernel_rfl, by kernel_rfl, by kernel_rfl⟩
    · exact ⟨Tryz.f108, Tryz.func108, by kernel_rfl, by kernel_rfl, by kernel_rfl⟩
    · exact ⟨Tryz.f129, Tryz.func129, by kernel_rfl, by kernel_rfl, by kernel_rfl⟩) (by kernel_rfl) (by kernel_rfl) Tryz.checked.mixed (fun p hp => by
    simp only [List.mem_cons, List.not_mem_nil, or_false] at hp
    rcases hp with rfl | rfl
    · exact ins80
    · exact ins116)
def pows : List Int := [1, 10, 100, 1000, 10000, 100000, 1000000, 10000000, 100000000, 1000000000, 10000000000, 100000000000, 1000000000000, 10000000000000, 100000000000000, 1000000000000000, 10000000000000000, 100000000000000000, 1000000000000000000, 10000000000000000000]
noncomputable def laidL : List (Nat × List Value) := [(1, [.int .u64 (.ofNat 1), .int .u64 (.ofNat 10), .int .u64 (.ofNat 100), .int .u64 (.ofNat 1000), .int .u64 (.ofNat 10000), .int .u64 (.ofNat 100000), .int .u64 (.ofNat 1000000), .int .u64 (.ofNat 10000000), .int .u64 (.ofNat 100000000), .int .u64 (.ofNat 1000000000), .int .u64 (.ofNat 10000000000), .int .u64 (.ofNat 100000000000), .int .u64 (.ofNat 1000000000000), .int .u64 (.ofNat 10000000000000), .int .u64 (.ofNat 100000000000000), .int .u64 (.ofNat 1000000000000000), .int .u64 (.ofNat 10000000000000000), .int .u64 (.ofNat 100000000000000000), .int .u64 (.ofNat 1000000000000000000), .int .u64 (.ofNat 10000000000000000000)])]
theorem laid_reads {P : Program} {w : World} : ∀ {l : List (String × DataW Unit)} {ps : List MemPlace}, DataW.LaidVars P w l ps → ∀ n d, (n, d) ∈ l →
    ∃ g t cs fuel p, P.globalNamed n = some g ∧ (P.globals[g]?).map (·.type) = some t ∧ w.var? P n = some cs ∧ DataW.trod (fun _ => ()) P w 0 (fun _ => true) false fuel t cs.toList = some (d, p)
  | [], _, _, _, _, hm => by cases hm
  | (n', d') :: r, ps, h, n, d, hm => by
    obtain ⟨g, t, cs, fuel, p, q, h1, h2, h3, h4, h5, _⟩ := h
    rcases List.mem_cons.1 hm with e | e
    · cases e
      exact ⟨g, t, cs, fuel, p, h1, h2, h3, h4⟩
    · exact laid_reads h5 n d e
theorem pow_mem : ("internal/strconv.uint64pow10", Lib.tabData .u64 pows) ∈ Rows.textKnownRow.laid := List.mem_cons_of_mem _ (List.mem_cons_of_mem _ (List.mem_cons_self ..))
theorem laid_met {w : World} (h : laidMetH Tryz.prog Rows.textKnownRow.laid w) : Sh.LaidW w 8 laidL := by
  rw [MakeChecks.laidMetH_plain _ _ _ (by kernel_rfl)] at h
  obtain ⟨ps, hv, _⟩ := h
  obtain ⟨g, t, cs, fuel, p, h1, h2, h3, h4⟩ := laid_reads hv _ _ pow_mem
  have hg : Tryz.prog.globalNamed "internal/strconv.uint64pow10" = some 1 := by kernel_rfl
  have ht : (Tryz.prog.globals[1]?).map (·.type) = some 206 := by kernel_rfl
  obtain rfl : 1 = g := by rw [hg] at h1; exact Option.some.inj h1
  obtain rfl : 206 = t := by rw [ht] at h2; exact Option.some.inj h2
  have hcs := Lib.cells_of_tab (n := 20) (e := 37) Tryz.underlying206 Tryz.underlying37 (by kernel_rfl) (by kernel_rfl) h4
  intro b c hb
  unfold laidL Sh.laidAt at hb
  split at hb
  · rename_i hb1
    simp only at hb1
    subst hb1
    injection hb with hb
    subst hb
    refine ⟨by decide, by kernel_rfl, ?_⟩
    unfold World.var? at h3
    rw [hg] at h3
    simp only [Option.bind_some] at h3
    split at h3
    · rename_i C ty fz hC
      injection h3 with h3
      subst h3
      exact ⟨_, ty, fz, hC, hcs⟩
    · cases h3
  · cases hb
/-- The run. -/
theorem known_run : Sh.saysL E 3 1000000 8 laidL = true := by kernel_rfl
theorem known_calls (w : World) (hL : laidMetH Tryz.prog Rows.textKnownRow.laid w) : Calls Tryz.prog 3 #[] w fun e w' => e = .returned (.bool true) ∧ Below w.heap.size w w' :=
  Sh.closed_fastL E_ok 3 1000000 8 laidL known_run w (laid_met hL)
end Go.Proofs.YtohgenhjdgdkgaaGreatDoor.TextKnown
