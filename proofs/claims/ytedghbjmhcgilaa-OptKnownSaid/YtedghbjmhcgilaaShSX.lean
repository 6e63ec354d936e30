import Derived.Test.YtedghbjmhcgilaaShSC
import Derived.Lib.Bytealg
namespace Go.Proofs.Ytedghbjmhcgilaa.Sh
open Go.RowKit
set_option linter.unusedVariables false
set_option linter.unusedSimpArgs false

/-! ### clear -/
noncomputable def aClear (E : Env) (t : TypeId) (s : Value) (H : AH) : Option (Value × AH) :=
  match s with
  | .slice none 0 0 => match E.und t with
    | some (.slice _) => some (.tuple ⟨[]⟩, H)
    | _ => none
  | .slice (some ⟨b, o, none⟩) l _ => match E.und t with
    | some (.slice e) => match l with
      | 0 => some (.tuple ⟨[]⟩, H)
      | l + 1 => match zeroOf E e with
        | some z => match H.put b o (zerosL z.cells.toList (l + 1)) with
          | some H' => some (.tuple ⟨[]⟩, H')
          | none => none
        | none => none
    | _ => none
  | _ => none
section
variable {E : Env} {base : Bs} {w0 w : World} {γ : Nat → G} {H : AH}
theorem aClear_ok (hE : E.OK) (h : HRel γ base w0 H w) {t ty : TypeId} {ts : Array TypeId} (ht : ts[0]? = some t) {s s' v : Value} {H' : AH} (hs : VRel γ H.next s s') (hl : aClear E t s H = some (v, H')) : VOK E.P base w0 γ H w (Builtin.clear_ ts ty #[s']) v H' := by
  unfold aClear at hl
  split at hl
  · split at hl
    case h_2 => cases hl
    rename_i e hu
    injection hl with hl; injection hl with e1 e2; subst e1 e2
    rw [hs.nilslice_inv.2.2]
    refine VOK.same h (v' := .tuple #[]) ?_ (.tup _ _ rfl (fun i x y hx => by simp at hx))
    simp [Builtin.clear_, ht, run_underlying (hE.und _ _ hu)]
  · rename_i b o l c
    split at hl
    case h_2 => cases hl
    rename_i e hu
    obtain ⟨_, hb, _, _, c', rfl, _⟩ := hs.slice_inv
    cases l with
    | zero =>
      simp only at hl
      injection hl with hl; injection hl with e1 e2; subst e1 e2
      refine VOK.same h (v' := .tuple #[]) ?_ (.tup _ _ rfl (fun i x y hx => by simp at hx))
      simp [Builtin.clear_, ht, run_underlying (hE.und _ _ hu)]
    | succ l =>
      simp only at hl
      split at hl
      case h_2 => cases hl
      rename_i z hz
      split at hl
      case h_2 => cases hl
      rename_i H1 hput
      injection hl with hl; injection hl with e1 e2; subst e1 e2
      obtain ⟨hz1, hz2⟩ := zeroOf_ok hE hz γ H.next w
      obtain ⟨w', k1, k2, k3, _⟩ := h.put E.P hb hput (zerosL_rel hz2.cells (l + 1))
      refine ⟨γ, .tuple #[], w', by rw [k3]; exact Ext.refl _ _, ?_, .tup _ _ rfl (fun i x y hx => by simp at hx), k2⟩
      have hzz : (Builtin.zeroCells z.cells (l + 1)).toList = zerosL z.cells.toList (l + 1) := by
        have := zerosL_eq z.cells.toList (l + 1)
        unfold Builtin.zeroCells
        simp only [← Array.length_toList]
        exact this
      simp only [Builtin.clear_, ht, List.getElem?_toArray, List.getElem?_cons_zero, Sem.run_bind, run_underlying (hE.und _ _ hu), Result.andThen_ok, hz1, hzz, k1, Sem.run_pure]
  · cases hl
end
/-! ### functions without a Go body -/
/-- Functions without a Go body that the runs know. -/
inductive Xt where
  | count
  | idxByte
noncomputable def Xt.sem : Xt → Array Value → Sem Value
  | .count => Extern.BytealgCount.count
  | .idxByte => Extern.BytealgIndexByte.indexByte
noncomputable def aExt (k : Xt) (args : List Value) : Option Value :=
  match k, args with
  | .count, [.string s, .int .u8 c] => some (.int .i64 (Lib.countByte s.data.toList c.toNat.toUInt8))
  | .idxByte, [.string s, .int .u8 c] => some (.int .i64 (Lib.indexByte s.data.toList c.toNat.toUInt8))
  | _, _ => none
theorem LRel.two {γ : Nat → G} {n : Nat} {u v : Value} {l : List Value} (h : LRel γ n [u, v] l) : ∃ u' v', l = [u', v'] ∧ VRel γ n u u' ∧ VRel γ n v v' := by
  obtain ⟨h1, h2⟩ := h
  match l, h1 with
  | [a, b], _ => exact ⟨a, b, rfl, h2 0 _ _ rfl rfl, h2 1 _ _ rfl rfl⟩
theorem aExt_ok {P : Program} {γ : Nat → G} {n : Nat} {w : World} {k : Xt} {args args' : List Value} {v : Value} (hr : LRel γ n args args') (h : aExt k args = some v) : ∃ v', (k.sem ⟨args'⟩).run P w = .ok v' w ∧ VRel γ n v v' := by
  unfold aExt at h
  split at h
  · rename_i s c
    obtain ⟨u', v', rfl, hu, hv'⟩ := hr.two
    injection h with h; subst h
    have q1 := hu.string_inv
    have q2 := hv'.int_inv
    subst q1 q2
    exact ⟨_, Lib.run_countString s c w, .int _ _⟩
  · rename_i s c
    obtain ⟨u', v', rfl, hu, hv'⟩ := hr.two
    injection h with h; subst h
    have q1 := hu.string_inv
    have q2 := hv'.int_inv
    subst q1 q2
    exact ⟨_, Lib.run_indexByteString s c w, .int _ _⟩
  · cases h
end Go.Proofs.Ytedghbjmhcgilaa.Sh
