import Derived.Test.YtohgenhjdgdkgaaGreatDoorShSS
namespace Go.Proofs.YtohgenhjdgdkgaaGreatDoor.Sh
open Go.RowKit
set_option linter.unusedVariables false
set_option linter.unusedSimpArgs false

/-! ### a closed call from a memory in which some package variables are known -/
noncomputable def H0L (g : Nat) (ls : List (Nat × List Value)) : AH :=
  List.rec (motive := fun _ => AH) (H0 g) (fun x _ H => { H with objs := H.objs.set .gone x.1 (.cells ⟨x.2, 0, 1, x.1, 0, true, true⟩), live := H.live.set [] x.1 [x.1] }) ls
noncomputable def laidAt : List (Nat × List Value) → Nat → Option (List Value)
  | [], _ => none
  | x :: l, b => if b = x.1 then some x.2 else laidAt l b
theorem H0L_next (g : Nat) (ls : List (Nat × List Value)) : (H0L g ls).next = g ∧ (H0L g ls).g0 = g := by
  induction ls with
  | nil => exact ⟨rfl, rfl⟩
  | cons x l ih => exact ih
theorem H0L_obj (g : Nat) (ls : List (Nat × List Value)) (b : Nat) : (H0L g ls).obj b = match laidAt ls b with | some cs => .cells ⟨cs, 0, 1, b, 0, true, true⟩ | none => .gone := by
  induction ls with
  | nil => exact T.get_lf b
  | cons x l ih =>
    show ((H0L g l).objs.set .gone x.1 (.cells ⟨x.2, 0, 1, x.1, 0, true, true⟩)).get .gone b = _
    rw [T.get_set]
    unfold laidAt
    by_cases e : b = x.1
    · rw [if_pos e, if_pos e, e]
    · rw [if_neg e, if_neg e]; exact ih
theorem H0L_mem (g : Nat) (ls : List (Nat × List Value)) (b : Nat) (h : laidAt ls b ≠ none) : b ∈ (H0L g ls).mem b := by
  induction ls with
  | nil => exact absurd rfl h
  | cons x l ih =>
    show b ∈ ((H0L g l).live.set [] x.1 [x.1]).get [] b
    rw [T.get_set]
    by_cases e : b = x.1
    · rw [if_pos e, e]; simp
    · rw [if_neg e]
      refine ih fun q => h ?_
      unfold laidAt
      rw [if_neg e]; exact q
/-- The known variables stand in the memory as they are listed. -/
noncomputable def LaidW (w : World) (g : Nat) (ls : List (Nat × List Value)) : Prop :=
  ∀ b cs, laidAt ls b = some cs → b < g ∧ cs.all (plainN 12) = true ∧ ∃ C ty fz, w.heap[b]? = some (.cells C ty fz) ∧ C.toList = cs
noncomputable def γL (ls : List (Nat × List Value)) : Nat → G := fun b => match laidAt ls b with | some cs => ⟨b, 0, cs.length, cs.length, 1⟩ | none => ⟨b, 0, 0, 0, 0⟩
theorem γL_blk (ls : List (Nat × List Value)) (b : Nat) : (γL ls b).blk = b ∧ (γL ls b).off = 0 := by
  unfold γL; cases laidAt ls b <;> exact ⟨rfl, rfl⟩
theorem H0L_ok (g : Nat) (ls : List (Nat × List Value)) (w : World) (hL : LaidW w g ls) : HRel (γL ls) ⟨w.heap.size, []⟩ w (H0L g ls) w := by
  obtain ⟨hn, hg⟩ := H0L_next g ls
  have hns : ∀ b, (H0L g ls).obj b ≠ .gone → ∃ cs, laidAt ls b = some cs ∧ (H0L g ls).obj b = .cells ⟨cs, 0, 1, b, 0, true, true⟩ := by
    intro b hb
    rw [H0L_obj] at hb ⊢
    cases hl : laidAt ls b with
    | none => rw [hl] at hb; exact absurd rfl hb
    | some cs => exact ⟨cs, rfl, rfl⟩
  refine ⟨Below.refl _ _, by rw [hn, hg]; exact Nat.le_refl _, fun b _ => γL_blk ls b, fun b hb => ?_, fun b _ h hr => ?_, fun a b _ _ hab _ _ h => ?_, fun b B _ h => ?_, Nat.le_refl _, fun p hp => by cases hp⟩
  · by_cases h : (H0L g ls).obj b = .gone
    · rw [h]; trivial
    · obtain ⟨cs, h1, h2⟩ := hns b h
      rw [h2]
      obtain ⟨_, hp, C, ty, fz, hC, hcs⟩ := hL b cs h1
      have hγ : γL ls b = ⟨b, 0, cs.length, cs.length, 1⟩ := by unfold γL; rw [h1]
      refine ⟨C, ty, fz, by rw [hγ]; exact hC, (fun q => by cases q), ?_⟩
      refine ⟨by rw [hγ]; simp [← hcs], by rw [hγ], by rw [hγ]; exact Nat.le_refl _, by rw [hγ], fun _ => by rw [hγ], fun j v hj => ?_, fun _ => by rw [hγ], fun q => by cases q⟩
      rw [hγ]
      have hj' : cs[j]? = some v := hj
      refine ⟨v, ?_, VRel.plain _ _ (List.all_eq_true.1 hp v (List.mem_of_getElem? hj'))⟩
      show C[0 + j]? = some v
      rw [Nat.zero_add, ← Array.getElem?_toList, hcs]; exact hj'
  · obtain ⟨cs, h1, h2⟩ := hns b h
    rw [h2] at hr; cases hr
  · rw [(γL_blk ls a).1, (γL_blk ls b).1] at h; exact absurd h hab
  · obtain ⟨cs, h1, h2⟩ := hns b (by rw [h]; exact fun q => by cases q)
    rw [h2] at h
    injection h with h
    subst h
    exact H0L_mem g ls b (by rw [h1]; exact fun q => by cases q)
noncomputable def saysL (E : FEnv) (f n g : Nat) (ls : List (Nat × List Value)) : Bool := (fX E n).call f [] (H0L g ls) none yes
theorem closed_fastL {E : FEnv} (hE : E.OK) (f n g : Nat) (ls : List (Nat × List Value)) (h : saysL E f n g ls = true) (w : World) (hL : LaidW w g ls) : Calls E.P f #[] w fun e w' => e = .returned (.bool true) ∧ Below w.heap.size w w' := by
  unfold saysL at h
  rw [(fX_rep n).1.call] at h
  have hq : ∃ H1, ev2 E (drawnE E) n (.call f [] (H0L g ls) none) = some (.fin (.ret (.bool true)) H1 false) := by
    rcases hq : ev2 E (drawnE E) n (.call f [] (H0L g ls) none) with _ | o <;> rw [hq] at h
    · cases h
    cases o with
    | out e fr H => cases h
    | fin c H1 rc =>
      cases c with
      | pan v => cases h
      | ret v =>
        cases rc with
        | true => cases h
        | false =>
          have h' : selV v true false false = true := h
          rw [selV_eq] at h'
          split at h'
          · exact ⟨H1, rfl⟩
          · cases h'
          · cases h'
  obtain ⟨H1, hq⟩ := hq
  intro cs
  obtain ⟨γ', w', fr', cs', h1, h2, h3, h4, v', h5, h6, h7, h8, h9, h10, fn, h11, h12⟩ := ev2_ok hE (drawn_ok hE) n _ _ hq (γL ls) ⟨w.heap.size, []⟩ w w [] .normal cs (H0L_ok g ls w hL) .nil (Rc.normal _ _ _)
  have hcs : cs' = cs := by
    rcases h3 with ⟨_, q⟩ | ⟨_, q, _⟩
    · exact q
    · cases q
  subst hcs
  have hv := h5.bool_inv
  subst hv
  exact ⟨.returned (.bool true), w', fr', ⟨rfl, h2.below⟩, h4, h9, h6, h7, h8, fn, by rw [h9]; exact h11, h12⟩
end Go.Proofs.YtohgenhjdgdkgaaGreatDoor.Sh
