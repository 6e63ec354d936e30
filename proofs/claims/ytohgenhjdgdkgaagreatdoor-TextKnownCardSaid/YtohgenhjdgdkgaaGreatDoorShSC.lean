import Derived.Test.YtohgenhjdgdkgaaGreatDoorShSB
namespace Go.Proofs.YtohgenhjdgdkgaaGreatDoor.Sh
open Go.RowKit
set_option linter.unusedVariables false
set_option linter.unusedSimpArgs false

section
variable {E : Env} {base : Bs} {w0 w : World} {γ : Nat → G} {H : AH}
/-! writing a map -/
noncomputable def putEntry (es : List MapEntry) (i : Nat) (k v : Value) : List MapEntry :=
  match es, i with
  | [], _ => []
  | e :: es, 0 => { e with key := k, val := v } :: es
  | e :: es, i + 1 => e :: putEntry es i k v
noncomputable def AH.setObj (H : AH) (b : Nat) (o : AObj) : AH := { H with objs := H.objs.set .gone b o }
theorem AH.setObj_obj (H : AH) (b : Nat) (o : AObj) (x : Nat) : (H.setObj b o).obj x = if x = b then o else H.obj x := T.get_set _ _ _ _
/-- Objects that are no cells. -/
noncomputable def AObj.single : AObj → Bool
  | .cells _ => false
  | .gone => false
  | _ => true
theorem HRel.setOb (h : HRel γ base w0 H w) {b : Nat} {o : AObj} (hb : b < H.next) (hob : H.obj b = o) (hs : o.single = true) (o' : AObj) (ho' : ∀ B, o' ≠ .cells B) (ob : Obj) (hnew : ORel γ H.next b { w with heap := w.heap.setIfInBounds (γ b).blk ob } o') :
    HRel γ base w0 (H.setObj b o') { w with heap := w.heap.setIfInBounds (γ b).blk ob } := by
  have hng : H.obj b ≠ .gone := by rw [hob]; exact fun q => by rw [q] at hs; cases hs
  have hlt : (γ b).blk < w.heap.size := (h.rel b hb).lt hng
  have hown := h.own b hb hng (by rw [hob]; cases o <;> first | rfl | cases hs)
  have hother : ∀ x, x < H.next → x ≠ b → H.obj x ≠ .gone → (γ x).blk ≠ (γ b).blk := by
    intro x hx hne hn q
    obtain ⟨A, B, _, hB, _⟩ := h.apart x b hx hb hne hn hng q
    rw [hob] at hB; rw [hB] at hs; cases hs
  have hheap : ∀ k, k ≠ (γ b).blk → (w.heap.setIfInBounds (γ b).blk ob)[k]? = w.heap[k]? := fun k hk => by
    rw [Array.getElem?_setIfInBounds, if_neg (Ne.symm hk)]
  refine ⟨h.below.trans ⟨rfl, rfl, rfl, by simp, fun k hk => hheap k (by have := hown.1; omega)⟩, h.g0, h.glob, ?_, ?_, ?_, ?_, by simp; exact h.fits, fun p hp => ⟨(h.pins p hp).1, (hheap _ (fun q => hown.2 p hp q.symm)).trans (h.pins p hp).2.1, fun x hx hn => ?_⟩⟩
  case refine_5 =>
    rw [AH.setObj_obj] at hn
    by_cases e : x = b
    · subst e; exact hown.2 p hp
    · rw [if_neg e] at hn; exact (h.pins p hp).2.2 x hx hn
  · intro x hx
    rw [AH.setObj_obj]
    by_cases e : x = b
    · subst e
      rw [if_pos rfl]
      exact hnew
    · rw [if_neg e]
      by_cases hn : H.obj x = .gone
      · rw [hn]; trivial
      · exact ORel.ext (Ext.refl _ _) hx (hheap _ (hother x hx e hn)) (h.rel x hx)
  · intro x hx hn hro
    rw [AH.setObj_obj] at hn hro
    by_cases e : x = b
    · subst e; exact hown
    · rw [if_neg e] at hn hro; exact h.own x hx hn hro
  · intro x y hx hy hxy hnx hny hblk
    rw [AH.setObj_obj] at hnx hny
    rw [AH.setObj_obj, AH.setObj_obj]
    by_cases ex : x = b <;> by_cases ey : y = b
    · omega
    · subst ex; rw [if_neg ey] at hny; exact absurd hblk.symm (hother y hy ey hny)
    · subst ey; rw [if_neg ex] at hnx; exact absurd hblk (hother x hx ex hnx)
    · rw [if_neg ex] at hnx ⊢
      rw [if_neg ey] at hny ⊢
      exact h.apart x y hx hy hxy hnx hny hblk
  · intro x X hx hX
    rw [AH.setObj_obj] at hX
    by_cases e : x = b
    · rw [if_pos e] at hX; exact absurd hX (ho' X)
    · rw [if_neg e] at hX; exact h.inl x X hx hX
theorem HRel.setMap (h : HRel γ base w0 H w) {b : Nat} {es : List MapEntry} {c : Nat} (hb : b < H.next) (hob : H.obj b = .map es c) (es2 : List MapEntry) (es2' : Array MapEntry) (c2 : Nat) (hes : ESRel γ H.next es2 es2'.toList) :
    HRel γ base w0 (H.setObj b (.map es2 c2)) { w with heap := w.heap.setIfInBounds (γ b).blk (.map es2' c2) } := by
  have hlt : (γ b).blk < w.heap.size := (h.rel b hb).lt (by rw [hob]; exact fun q => by cases q)
  exact h.setOb hb hob rfl _ (fun B q => by cases q) _ ⟨es2', by simp [hlt], hes⟩
theorem putEntry_get : ∀ (es : List MapEntry) (i : Nat) (k v : Value) (j : Nat), (putEntry es i k v)[j]? = if j = i then (es[j]?).map (fun e => { e with key := k, val := v }) else es[j]? := by
  intro es
  induction es with
  | nil => intro i k v j; simp [putEntry]
  | cons e es ih =>
    intro i k v j
    cases i with
    | zero => cases j <;> simp [putEntry]
    | succ i => cases j with
      | zero => simp [putEntry]
      | succ j => simp [putEntry, ih]
noncomputable def aMapUpdate (E : Env) (t : TypeId) (m k v : Value) (H : AH) : Option AH :=
  match E.und t, m with
  | some (.map kt _), .map (some b) => match H.obj b, keyT E kt k with
    | .map es c, true => match findL k es 0 with
      | some (some (i, _)) => some (H.setObj b (.map (putEntry es i k v) c))
      | some none => some (H.setObj b (.map (es ++ [{ key := k, val := v, born := c }]) (c + 1)))
      | none => none
    | _, _ => none
  | _, _ => none
theorem setObj_run {P : Program} {r : Nat} {o o' : Obj} (h : w.heap[r]? = some o) (ho : Obj.isCells' o = false) : (setObj r o').run P w = .ok () { w with heap := w.heap.setIfInBounds r o' } := by
  unfold setObj
  rw [Sem.run]
  rw [h]
  cases o <;> first | rfl | cases ho
theorem aMapUpdate_ok (hE : E.OK) (h : HRel γ base w0 H w) {t : TypeId} {m m' k k' v v' : Value} {H' : AH} (hm : VRel γ H.next m m') (hk : VRel γ H.next k k') (hv : VRel γ H.next v v') (hl : aMapUpdate E t m k v H = some H') :
    ∃ w', (Instr.mapUpdate t m' k' v').run E.P w = .ok () w' ∧ HRel γ base w0 H' w' ∧ H'.next = H.next := by
  unfold aMapUpdate at hl
  split at hl
  case h_2 => cases hl
  rename_i kt et b hu
  have hu' := hE.und _ _ hu
  cases hm with
  | map _ hb =>
    split at hl
    case h_2 => cases hl
    rename_i es c hob hkt
    obtain ⟨d, hd, hdd, hck⟩ := keyT_ok hE hk hkt
    have hr := h.rel b hb
    rw [hob] at hr
    obtain ⟨es', h1, h2⟩ := hr
    have hg : (getObj (γ b).blk).run E.P w = .ok (.map es' c) w := getObj_run h1 rfl
    have hfk : ∀ r, Instr.findNow d k' es'.toList 0 = some r → (Instr.findKey kt k' es'.toList).run E.P w = .ok r w := fun r hr => by
      simp [Instr.findKey, run_underlying hd, hr]
    have hso : ∀ o', (Go.setObj (γ b).blk o').run E.P w = .ok () { w with heap := w.heap.setIfInBounds (γ b).blk o' } := fun o' => setObj_run h1 rfl
    split at hl
    · rename_i i u hf
      injection hl with hl; subst hl
      obtain ⟨u', f1, f2, _, e', f4, f5⟩ := (findL_ok hdd hk es es'.toList 0 _ h2 hf).2 i u rfl
      have f4' : es'[i]? = some e' := by simpa using f4
      refine ⟨_, ?_, h.setMap hb hob (putEntry es i k v) (es'.modify i fun e => { e with key := k', val := v' }) c ?_, rfl⟩
      · have hks : (Instr.keyThatStays (((es'[i]?).map (·.key)).getD k') k').run E.P w = .ok k' w := by
          rw [f4']
          simp [Instr.keyThatStays, f5]
        simp only [Instr.mapUpdate, Sem.run_bind, run_underlying hu', Result.andThen_ok, hg, hck, hfk _ f1, hks, hso]
      · refine ⟨?_, fun j x y hx hy => ?_⟩
        · have hl2 : ∀ (es : List MapEntry) (i : Nat) (k v : Value), (putEntry es i k v).length = es.length := by
            intro es
            induction es with
            | nil => intro i k v; rfl
            | cons e es ih => intro i k v; cases i <;> simp [putEntry, ih]
          rw [hl2]; simp [h2.1]
        · rw [putEntry_get] at hx
          rw [Array.getElem?_toList, Array.getElem?_modify] at hy
          by_cases e : j = i
          · subst e
            rw [if_pos rfl] at hx hy
            cases hx1 : es[j]? with
            | none => rw [hx1] at hx; cases hx
            | some a =>
              rw [hx1] at hx
              rw [f4'] at hy
              injection hx with hx; injection hy with hy
              subst hx hy
              have := h2.2 j a e' hx1 (by rw [Array.getElem?_toList]; exact f4')
              exact ⟨hk, hv, this.2.2⟩
          · rw [if_neg e] at hx
            rw [if_neg (Ne.symm e)] at hy
            exact h2.2 j x y hx (by rw [Array.getElem?_toList]; exact hy)
    · rename_i hf
      injection hl with hl; subst hl
      have f1 := (findL_ok hdd hk es es'.toList 0 _ h2 hf).1 rfl
      refine ⟨_, ?_, h.setMap hb hob (es ++ [{ key := k, val := v, born := c }]) (es'.push { key := k', val := v', born := c }) (c + 1) ?_, rfl⟩
      · simp only [Instr.mapUpdate, Sem.run_bind, run_underlying hu', Result.andThen_ok, hg, hck, hfk _ f1, hso]
      · refine ⟨by simp [h2.1], fun j x y hx hy => ?_⟩
        rw [Array.toList_push] at hy
        by_cases e : j < es.length
        · rw [List.getElem?_append_left e] at hx
          rw [List.getElem?_append_left (by rw [← h2.1]; exact e)] at hy
          exact h2.2 j x y hx hy
        · have hj : j = es.length := by
            have := (List.getElem?_eq_some_iff.1 hx).1
            simp at this; omega
          subst hj
          rw [List.getElem?_append_right (Nat.le_refl _)] at hx
          rw [h2.1, List.getElem?_append_right (Nat.le_refl _)] at hy
          simp at hx hy
          subst hx hy
          exact ⟨hk, hv, rfl⟩
    · cases hl
/-! min, max -/
noncomputable def aMin (xs : List Value) : Option Value :=
  match xs with
  | [.int k a, .int k' b] => some (.int k (match ltI b a with | true => b | false => a))
  | _ => none
noncomputable def aMax (xs : List Value) : Option Value :=
  match xs with
  | [.int k a, .int k' b] => some (.int k (match ltI a b with | true => b | false => a))
  | _ => none
end
end Go.Proofs.YtohgenhjdgdkgaaGreatDoor.Sh
