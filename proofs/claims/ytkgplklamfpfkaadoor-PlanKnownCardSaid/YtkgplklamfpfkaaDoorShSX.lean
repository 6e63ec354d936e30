import Derived.Test.YtkgplklamfpfkaaDoorShSC
import Derived.Lib.Bytealg
namespace Go.Proofs.YtkgplklamfpfkaaDoor.Sh
open Go.RowKit
set_option linter.unusedVariables false
set_option linter.unusedSimpArgs false

/-! ### functions without a Go body -/
/-- Functions without a Go body that the runs know. -/
inductive Xt where
  | count
  | idxByte
def Xt.sem : Xt → Array Value → Sem Value
  | .count => Extern.BytealgCount.count
  | .idxByte => Extern.BytealgIndexByte.indexByte
def aExt (k : Xt) (args : List Value) : Option Value :=
  match k, args with
  | .count, [.string s, .int .u8 c] => some (.int .i64 (Lib.countByte s.data.toList c.toNat.toUInt8))
  | .idxByte, [.string s, .int .u8 c] => some (.int .i64 (Lib.indexByte s.data.toList c.toNat.toUInt8))
  | _, _ => none
theorem LRel.two {γ : Nat → G} {n : Nat} {u v : Value} {l : List Value} (h : LRel γ n [u, v] l) : ∃ u' v', l = [u', v'] ∧ VRel γ n u u' ∧ VRel γ n v v' := by
  obtain ⟨h1, h2⟩ := h
  match l, h1 with
  | [a, b], _ => exact ⟨a, b, rfl, h2 0 _ _ rfl rfl, h2 1 _ _ rfl rfl⟩
theorem aExt_ok {P : Program} {γ : Nat → G} {n : Nat} {w : World} {k : Xt} {args args' : List Value} {v : Value} (hr : LRel γ n args args') (h : aExt k args = some v) : ∃ v', (k.sem ⟨args'⟩).run P w = .ok v' w ∧ VRel γ n v v' := by
  unfold aExt at h
  split at h
  · rename_i s c
    obtain ⟨u', v', rfl, hu, hv'⟩ := hr.two
    injection h with h; subst h
    have q1 := hu.string_inv
    have q2 := hv'.int_inv
    subst q1 q2
    exact ⟨_, Lib.run_countString s c w, .int _ _⟩
  · rename_i s c
    obtain ⟨u', v', rfl, hu, hv'⟩ := hr.two
    injection h with h; subst h
    have q1 := hu.string_inv
    have q2 := hv'.int_inv
    subst q1 q2
    exact ⟨_, Lib.run_indexByteString s c w, .int _ _⟩
  · cases h
end Go.Proofs.YtkgplklamfpfkaaDoor.Sh
