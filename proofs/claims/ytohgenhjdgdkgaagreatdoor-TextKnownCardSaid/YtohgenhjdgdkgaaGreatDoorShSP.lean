import Derived.Test.YtohgenhjdgdkgaaGreatDoorShSD
namespace Go.Proofs.YtohgenhjdgdkgaaGreatDoor.Sh
open Go.RowKit
set_option linter.unusedVariables false
set_option linter.unusedSimpArgs false

/-! ### new blocks that are made early -/
inductive Rec where
  | ptr (vs : List Value) (ty esz : Nat)
  | sl (l c : Nat) (vs : List Value) (ty esz : Nat)
  | map
noncomputable def Rec.mk : Rec → Nat → Value
  | .ptr _ _ _, n => .pointer (some ⟨n, 0, none⟩)
  | .sl l c _ _ _, n => .slice (some ⟨n, 0, none⟩) l c
  | .map, n => .map (some n)
noncomputable def Rec.heap : Rec → AH → AH
  | .ptr vs ty esz, H => H.newRow vs ty esz
  | .sl _ _ vs ty esz, H => H.newRow vs ty esz
  | .map, H => H.new (.map [] 0) H.next (H.mem H.next)
theorem Rec.heap_next (r : Rec) (H : AH) : (r.heap H).next = H.next + 1 := by cases r <;> rfl
/-- The block in the world. -/
noncomputable def RecRel (γ : Nat → G) (n : Nat) : Rec → Obj → Prop
  | .ptr vs ty esz, ob => ∃ C, ob = .cells C ty ∧ LRel γ n vs C.toList
  | .sl l c vs ty esz, ob => (∃ C, ob = .cells C ty ∧ LRel γ n vs C.toList) ∧ l ≤ c ∧ vs.length = c * esz
  | .map, ob => ob = .map #[] 0
theorem RecRel.ext {γ γ' : Nat → G} {n n' : Nat} (e : Ext γ n γ' n') {r : Rec} {ob : Obj} (h : RecRel γ n r ob) : RecRel γ' n' r ob := by
  cases r with
  | ptr vs ty esz => obtain ⟨C, h1, h2⟩ := h; exact ⟨C, h1, h2.ext e⟩
  | sl l c vs ty esz => obtain ⟨⟨C, h1, h2⟩, h3⟩ := h; exact ⟨⟨C, h1, h2.ext e⟩, h3⟩
  | map => exact h
section
variable {γ : Nat → G} {base : Bs} {w0 w : World} {H : AH}
/-- Fewer pins. -/
theorem HRel.unpin (h : HRel γ base w0 H w) {b2 : Bs} (hn : b2.n = base.n) (hp : ∀ p ∈ b2.pin, p ∈ base.pin) : HRel γ b2 w0 H w := by
  obtain ⟨h1, h2, h3, h4, h5, h6, h7, h8, h9⟩ := h
  refine ⟨by rw [hn]; exact h1, h2, h3, h4, fun b hb q1 q2 => ⟨by rw [hn]; exact (h5 b hb q1 q2).1, fun p hq => (h5 b hb q1 q2).2 p (hp p hq)⟩, h6, h7, by rw [hn]; exact h8, fun p hq => ?_⟩
  rw [hn]
  exact h9 p (hp p hq)
/-- A new block that no abstract block stands for yet. -/
theorem HRel.pinned (h : HRel γ base w0 H w) (ob : Obj) : HRel γ ⟨base.n, (w.heap.size, ob) :: base.pin⟩ w0 H (w.alloc ob) := by
  have hlt : ∀ b, b < H.next → H.obj b ≠ .gone → (γ b).blk < w.heap.size := fun b hb hn => (h.rel b hb).lt hn
  refine ⟨h.below.alloc h.fits ob, h.g0, h.glob, ?_, ?_, h.apart, h.inl, ?_, ?_⟩
  · intro b hb
    by_cases hn : H.obj b = .gone
    · rw [hn]; trivial
    · exact ORel.ext (Ext.refl _ _) hb (Below.heap_alloc _ _ _ (hlt b hb hn)) (h.rel b hb)
  · intro b hb hn hr
    refine ⟨(h.own b hb hn hr).1, fun p hp => ?_⟩
    rcases List.mem_cons.1 hp with q | q
    · subst q; have := hlt b hb hn; show (γ b).blk ≠ w.heap.size; omega
    · exact (h.own b hb hn hr).2 p q
  · show base.n ≤ (w.heap.push ob).size
    have := h.fits
    simp; omega
  · intro p hp
    rcases List.mem_cons.1 hp with q | q
    · subst q
      refine ⟨h.fits, by show (w.heap.push ob)[w.heap.size]? = some ob; simp, fun b hb hn => ?_⟩
      have := hlt b hb hn
      show (γ b).blk ≠ w.heap.size
      omega
    · exact ⟨(h.pins p q).1, (Below.heap_alloc _ _ _ (Array.getElem?_eq_some_iff.1 (h.pins p q).2.1).1).trans (h.pins p q).2.1, (h.pins p q).2.2⟩
/-- A map's block that is there stands for a new map. -/
theorem HRel.placeMap (h : HRel γ base w0 H w) {c : Nat} (hg : base.mine c) (ho : w.heap[c]? = some (.map #[] 0)) (hap : ∀ a, a < H.next → H.obj a ≠ .gone → (γ a).blk ≠ c) :
    HRel (upd γ H.next ⟨c, 0, 0, 0, 0⟩) base w0 (H.new (.map [] 0) H.next (H.mem H.next)) w := by
  refine ⟨h.below, by rw [AH.new_g0, AH.new_next]; exact Nat.le_succ_of_le h.g0, ?_, ?_, ?_, ?_, ?_, h.fits, fun p hp => ⟨(h.pins p hp).1, (h.pins p hp).2.1, fun x hx hn => ?_⟩⟩
  case refine_6 =>
    rw [AH.new_next] at hx
    rw [AH.new_obj] at hn
    by_cases e : x = H.next
    · subst e; rw [upd_at]; exact hg.2 p hp
    · rw [if_neg e] at hn; rw [upd_lt _ _ _ (by omega)]; exact (h.pins p hp).2.2 x (by omega) hn
  · intro x hx
    rw [AH.new_g0] at hx
    rw [upd_lt _ _ _ (Nat.lt_of_lt_of_le hx h.g0)]
    exact h.glob x hx
  · intro b hb
    rw [AH.new_next] at hb
    rw [AH.new_obj, AH.new_next]
    by_cases e : b = H.next
    · subst e; rw [if_pos rfl]
      exact ⟨#[], by rw [upd_at]; exact ho, rfl, fun i x y hx => by simp at hx⟩
    · rw [if_neg e]; exact ORel.ext (upd_ext _ _ _) (by omega) rfl (h.rel b (by omega))
  · intro b hb hn hr
    rw [AH.new_next] at hb
    rw [AH.new_obj] at hn hr
    by_cases e : b = H.next
    · subst e; rw [upd_at]; exact hg
    · rw [if_neg e] at hn hr; rw [upd_lt _ _ _ (by omega)]; exact h.own b (by omega) hn hr
  · intro a b ha hb hab hna hnb hblk
    rw [AH.new_next] at ha hb
    rw [AH.new_obj] at hna hnb
    rw [AH.new_obj, AH.new_obj]
    by_cases ea : a = H.next <;> by_cases eb : b = H.next
    · omega
    · subst ea
      rw [if_neg eb] at hnb
      rw [upd_at, upd_lt _ _ _ (by omega)] at hblk
      exact absurd hblk.symm (hap b (by omega) hnb)
    · subst eb
      rw [if_neg ea] at hna
      rw [upd_at, upd_lt _ _ _ (by omega)] at hblk
      exact absurd hblk (hap a (by omega) hna)
    · rw [if_neg ea] at hna ⊢
      rw [if_neg eb] at hnb ⊢
      rw [upd_lt _ _ _ (by omega), upd_lt _ _ _ (by omega)] at hblk ⊢
      exact h.apart a b (by omega) (by omega) hab hna hnb hblk
  · intro b X hb hX
    rw [AH.new_next] at hb
    rw [AH.new_obj] at hX
    rw [AH.new_mem]
    by_cases e : b = H.next
    · rw [if_pos e] at hX; cases hX
    · rw [if_neg e] at hX
      have := h.inl b X (by omega) hX
      by_cases e2 : X.fam = H.next
      · rw [if_pos e2]; rw [e2] at this; exact this
      · rw [if_neg e2]; exact this
/-- The block that was made early comes to stand for what the run makes now. -/
theorem HRel.absorb (h : HRel γ base w0 H w) {r : Rec} {ob : Obj} {c : Nat} (hc : (c, ob) ∈ base.pin) (hr : RecRel γ H.next r ob) {b2 : Bs} (hn : b2.n = base.n) (hp : ∀ p ∈ b2.pin, p ∈ base.pin ∧ p.1 ≠ c) :
    ∃ γ', Ext γ H.next γ' (r.heap H).next ∧ HRel γ' b2 w0 (r.heap H) w ∧ VRel γ' (r.heap H).next (r.mk H.next) (r.mk c) := by
  obtain ⟨q1, q2, q3⟩ := h.pins _ hc
  have hm : b2.mine c := ⟨by rw [hn]; exact q1, fun p hq => ((hp p hq).2).symm⟩
  have h2 := h.unpin hn (fun p hq => (hp p hq).1)
  have row : ∀ (vs : List Value) (ty esz : Nat) (C : Array Value), ob = .cells C ty → LRel γ H.next vs C.toList → HRel (upd γ H.next ⟨c, 0, vs.length, vs.length, esz⟩) b2 w0 (H.newRow vs ty esz) w := by
    intro vs ty esz C ho hv
    subst ho
    have hsz : C.size = vs.length := by rw [← Array.length_toList, hv.1]
    refine h2.place ⟨vs, ty, esz, H.next, 0, false, true⟩ ⟨c, 0, vs.length, vs.length, esz⟩ (H.next :: H.mem H.next) hm ?_ (fun a ha hna hb => absurd hb (q3 a ha hna)) (by simp)
    refine ⟨C, ty, (0, 0), by rw [upd_at]; exact q2, fun _ => ⟨rfl, .inl rfl⟩, by rw [upd_at, hsz]; simp, by rw [upd_at], by rw [upd_at]; simp, by rw [upd_at], fun he => by rw [upd_at], fun j v hj => ?_, fun _ => by rw [upd_at], fun q => by cases q⟩
    rw [upd_at]
    obtain ⟨y, hy, hyr⟩ := hv.get hj
    refine ⟨y, ?_, hyr.ext (upd_ext _ _ _)⟩
    show C[0 + j]? = _
    rw [Nat.zero_add, ← Array.getElem?_toList]
    exact hy
  cases r with
  | ptr vs ty esz =>
    obtain ⟨C, ho, hv⟩ := hr
    refine ⟨_, upd_ext _ _ _, row vs ty esz C ho hv, ?_⟩
    have := VRel.ptr (γ := upd γ H.next ⟨c, 0, vs.length, vs.length, esz⟩) (n := H.next + 1) H.next 0 (by omega)
    rw [upd_at] at this
    exact this
  | sl l k vs ty esz =>
    obtain ⟨⟨C, ho, hv⟩, hl, hk⟩ := hr
    refine ⟨_, upd_ext _ _ _, row vs ty esz C ho hv, ?_⟩
    have := VRel.slice (γ := upd γ H.next ⟨c, 0, vs.length, vs.length, esz⟩) (n := H.next + 1) H.next 0 l k k (by omega) hl (by rw [upd_at]; simp [hk]) (.inl rfl)
    rw [upd_at] at this
    exact this
  | map =>
    have ho : ob = .map #[] 0 := hr
    subst ho
    refine ⟨_, upd_ext _ _ _, h2.placeMap hm q2 q3, ?_⟩
    have := VRel.map (γ := upd γ H.next ⟨c, 0, 0, 0, 0⟩) (n := H.next + 1) H.next (by omega)
    rw [upd_at] at this
    exact this
end
/-! which operations -/
noncomputable def movable (o : Op) : Bool :=
  match o with
  | .alloc _ => true
  | .buildSlice _ _ _ => true
  | .makeMap _ _ => true
  | .makeSlice _ _ _ => true
  | _ => false
section
variable {E : FEnv} {γ : Nat → G} {H : AH} {ev : Ev} {ρ : Operand → Value}
theorem aAlloc_mov (hE : E.toEnv.OK) {n : Nat} {t : TypeId} {v : Value} {H' : AH} (hl : aAlloc E.toEnv t H = some (v, H')) :
    ∃ (r : Rec) (ob : Obj), v = r.mk H.next ∧ H' = r.heap H ∧ RecRel γ n r ob ∧ ∀ w, (Instr.alloc t true (.tuple #[])).run E.P w = .ok (r.mk w.heap.size) (w.alloc ob) := by
  unfold aAlloc at hl
  split at hl
  case h_2 => cases hl
  rename_i z hz
  unfold aBox at hl
  injection hl with hl; injection hl with e1 e2; subst e1 e2
  refine ⟨.ptr z.cells.toList t (eszOf E.toEnv t), .cells z.cells t, rfl, rfl, ⟨_, rfl, (zeroOf_ok hE hz γ n default).2.cells⟩, fun w => ?_⟩
  have h1 := (zeroOf_ok hE hz γ n w).1
  simp [Instr.alloc, h1, newVar, newRow, Rec.mk]
theorem aMakeMap_mov (hE : E.toEnv.OK) {n : Nat} {t : TypeId} {r r' : Option Value} {v : Value} {H' : AH} (hr : ORelV γ n r r') (hl : aMakeMap E.toEnv t r H = some (v, H')) :
    ∃ (q : Rec) (ob : Obj), v = q.mk H.next ∧ H' = q.heap H ∧ RecRel γ n q ob ∧ ∀ w, (Instr.makeMap t r').run E.P w = .ok (q.mk w.heap.size) (w.alloc ob) := by
  unfold aMakeMap at hl
  split at hl
  · injection hl with hl; injection hl with e1 e2
    have : r' = none := by cases r' with
      | none => rfl
      | some y => cases hr
    subst this
    exact ⟨.map, _, e1.symm, e2.symm, rfl, fun w => by simp [Instr.makeMap, Rec.mk]⟩
  · rename_i k i
    split at hl
    case h_2 => cases hl
    rename_i a b hu
    injection hl with hl; injection hl with e1 e2
    cases r' with
    | none => cases hr
    | some y =>
      have hy : VRel γ n (.int k i) y := hr
      rw [hy.int_inv]
      exact ⟨.map, _, e1.symm, e2.symm, rfl, fun w => by simp [Instr.makeMap, run_underlying (hE.und _ _ hu), asInt, asIntOf, Rec.mk]⟩
  · cases hl
theorem aMakeSlice_mov (hE : E.toEnv.OK) {n : Nat} {t : TypeId} {l c l' c' v : Value} {H' : AH} (h1 : VRel γ n l l') (h2 : VRel γ n c c') (hl : aMakeSlice E.toEnv t l c H = some (v, H')) :
    ∃ (r : Rec) (ob : Obj), v = r.mk H.next ∧ H' = r.heap H ∧ RecRel γ n r ob ∧ ∀ w, (Instr.makeSlice t l' c').run E.P w = .ok (r.mk w.heap.size) (w.alloc ob) := by
  unfold aMakeSlice at hl
  split at hl
  case h_2 => cases hl
  rename_i kl l kc c
  rw [h1.int_inv, h2.int_inv]
  split at hl
  case h_2 => cases hl
  rename_i e hu
  split at hl
  case h_2 => cases hl
  rename_i i z hi hz
  split at hl
  case h_2 => cases hl
  rename_i hb
  rw [Bool.and_eq_true, Bool.and_eq_true, Bool.and_eq_true] at hb
  have b1 := Nat.le_of_ble_eq_true hb.1.1.1
  have b2 := Nat.le_of_ble_eq_true hb.1.1.2
  have b3 := Nat.le_of_ble_eq_true hb.1.2
  have b4 := Nat.eq_of_beq_eq_true hb.2
  injection hl with hl; injection hl with e1 e2; subst e1 e2
  have hz2 := (zeroOf_ok hE hz γ n default).2
  have hmade : (madeCells z.cells (c * i.size)).toList = zerosL z.cells.toList c := by
    have := zerosL_eq z.cells.toList c
    rw [← b4]
    unfold madeCells
    simp only [← Array.length_toList]
    exact this
  refine ⟨.sl l c (zerosL z.cells.toList c) e i.size, .cells (madeCells z.cells (c * i.size)) e, rfl, rfl, ⟨⟨_, rfl, by rw [hmade]; exact zerosL_rel hz2.cells c⟩, b1, by rw [zerosL_len, b4]⟩, fun w => ?_⟩
  have hrun := run_make (P := E.P) w t e i z (hE.und _ _ hu) (hE.inf _ _ hi) (zeroOf_inf hz hi) kl kc (l : Int) (c : Int) (by omega) (by omega) (by have : ((i.bytes * c : Nat) : Int) ≤ 281474976710656 := by omega
                                                                                                                                                    rwa [Int.natCast_mul] at this) (by omega)
  simpa [Rec.mk] using hrun
theorem aBuildSlice_mov (hE : E.toEnv.OK) {n : Nat} {t : TypeId} {len : Nat} {ps : List (Nat × Value)} {ps' : Array (Nat × Value)} {v : Value} {H' : AH} (hp : PRel γ n ps ps'.toList) (hl : aBuildSlice E.toEnv t len ps H = some (v, H')) :
    ∃ (r : Rec) (ob : Obj), v = r.mk H.next ∧ H' = r.heap H ∧ RecRel γ n r ob ∧ ∀ w, (Instr.buildSlice t len ps').run E.P w = .ok (r.mk w.heap.size) (w.alloc ob) := by
  unfold aBuildSlice at hl
  split at hl
  case h_2 => cases hl
  rename_i e hu
  split at hl
  case h_2 => cases hl
  rename_i i z hi hz
  have hz2 := (zeroOf_ok hE hz γ n default).2
  split at hl
  case h_2 => cases hl
  rename_i k hbeq hble hk
  have hzl := Nat.eq_of_beq_eq_true hbeq
  have hb := Nat.le_of_ble_eq_true hble
  split at hl
  case h_2 => cases hl
  rename_i cs hcs
  injection hl with hl; injection hl with e1 e2; subst e1 e2
  obtain ⟨r', k1, k2⟩ := fill_ok _ ps ps'.toList _ (zerosL z.cells.toList len) cs hp (zerosL_rel hz2.cells len) hcs
  have hlen : cs.length = len * i.size := by rw [fill_size _ _ _ _ hcs, zerosL_len, hzl]
  refine ⟨.sl len len cs e i.size, .cells ⟨r'⟩ e, rfl, rfl, ⟨⟨_, rfl, k2⟩, Nat.le_refl _, hlen⟩, fun w => ?_⟩
  have hz1 := (zeroOf_ok hE hz γ n w).1
  show _ = Result.ok (Value.slice (some ⟨w.heap.size, 0, none⟩) len len) _
  have hnb : ¬ (16777216 < len * i.size) := by omega
  have hzz : (Array.range (len * i.size)).map (fun x => z.cells[x % z.cells.size]!) = ⟨zerosL z.cells.toList len⟩ := by
    apply Array.ext'
    have := zerosL_eq z.cells.toList len
    rw [hzl] at this
    simp only [← Array.length_toList, hzl]
    exact this
  by_cases h0 : len * i.size = 0
  · have hl0 : len = 0 := by
      rcases Nat.mul_eq_zero.1 h0 with q | q
      · exact q
      · omega
    subst hl0
    have hz0 : (⟨zerosL z.cells.toList 0⟩ : Array Value) = #[] := rfl
    rw [hz0] at k1
    have hz9 : ((Array.range (0 * i.size)).map (fun x => (#[] : Array Value)[x % (#[] : Array Value).size]!)) = #[] := by rw [h0]; simp
    simp only [Instr.buildSlice, Sem.run_bind, run_underlying (hE.und _ _ hu), Result.andThen_ok, sizeOf_run (hE.inf _ _ hi)]
    rw [if_neg (by simp)]
    simp only [Sem.run_bind, Sem.run_pure, Result.andThen_ok, if_pos h0, hz9, k1, newRow, run_newObj_alloc]
  · rw [hzz.symm] at k1
    simp only [Instr.buildSlice, Sem.run_bind, run_underlying (hE.und _ _ hu), Result.andThen_ok, sizeOf_run (hE.inf _ _ hi)]
    rw [if_neg (by simpa using hb)]
    simp only [Sem.run_bind, Sem.run_pure, Result.andThen_ok, if_neg h0, hz1, k1, newRow, run_newObj_alloc]
/-- What a movable operation does, in whatever world. -/
theorem aop_mov (hE : E.OK) {n : Nat} (he : EvRel γ n ev ρ) {o : Oper} (hm : movable o.op = true) {nn : AN} {H' : AH} (ha : aop E ev o.op H = some (nn, H')) :
    ∃ (r : Rec) (ob : Obj), nn = .val (r.mk H.next) ∧ H' = r.heap H ∧ RecRel γ n r ob ∧ ∀ w, (execOp ρ o).run E.P w = .ok (.value (r.mk w.heap.size)) (w.alloc ob) := by
  have fin : ∀ (q : Option (Value × AH)) (s : Sem Value), ofVal2 q = some (nn, H') → (∀ v K, q = some (v, K) → ∃ (r : Rec) (ob : Obj), v = r.mk H.next ∧ K = r.heap H ∧ RecRel γ n r ob ∧ ∀ w, s.run E.P w = .ok (r.mk w.heap.size) (w.alloc ob)) → (∀ w, (execOp ρ o).run E.P w = ((do pure (.value (← s))) : Sem Next).run E.P w) →
      ∃ (r : Rec) (ob : Obj), nn = .val (r.mk H.next) ∧ H' = r.heap H ∧ RecRel γ n r ob ∧ ∀ w, (execOp ρ o).run E.P w = .ok (.value (r.mk w.heap.size)) (w.alloc ob) := by
    intro q s hq hk hs
    unfold ofVal2 at hq
    split at hq
    case h_2 => cases hq
    rename_i v K
    injection hq with hq; injection hq with e1 e2; subst e1 e2
    obtain ⟨r, ob, h1, h2, h3, h4⟩ := hk v K rfl
    exact ⟨r, ob, by rw [h1], h2, h3, fun w => by rw [hs]; simp [h4 w]⟩
  have hEe := hE.env
  unfold movable at hm
  unfold aop at ha
  cases e : o.op with
  | alloc t =>
    rw [e] at ha
    exact fin _ (Instr.alloc t true (.tuple #[])) ha (fun v K hv => aAlloc_mov hEe hv) (fun w => by unfold execOp; rw [e])
  | buildSlice t m ps =>
    rw [e] at ha
    simp only at ha
    split at ha
    case h_2 => cases ha
    rename_i l hx
    exact fin _ (Instr.buildSlice t m (ps.map fun p => (p.1, ρ p.2))) ha (fun v K hv => aBuildSlice_mov hEe (by rw [Array.toList_map]; exact evParts_ok he _ _ hx) hv) (fun w => by unfold execOp; rw [e])
  | makeMap t r =>
    rw [e] at ha
    simp only at ha
    split at ha
    case h_2 => cases ha
    rename_i r' hr
    exact fin _ (Instr.makeMap t (r.map ρ)) ha (fun v K hv => aMakeMap_mov hEe (evOpt_ok he hr) hv) (fun w => by unfold execOp; rw [e])
  | makeSlice t l c =>
    rw [e] at ha
    simp only at ha
    split at ha
    case h_2 => cases ha
    rename_i l' c' hx hy
    exact fin _ (Instr.makeSlice t (ρ l) (ρ c)) ha (fun v K hv => aMakeSlice_mov hEe (he _ _ hx) (he _ _ hy) hv) (fun w => by unfold execOp; rw [e])
  | _ => rw [e] at hm; cases hm
end
/-! operations that neither look at the heap nor leave anything there, and hold of blocks that have no number yet -/
noncomputable def pureOp (o : Op) : Bool :=
  match o with
  | .build _ _ => true
  | _ => false
theorem putAt_len2 (a b a' b' : List Value) (i : Nat) (h : a.length = a'.length) (k : b.length = b'.length) : (putAt a i b).length = (putAt a' i b').length := by
  simp [putAt, h, k]
theorem fill_len (place : Nat → Option (Nat × Nat)) : ∀ (ps ps' : List (Nat × Value)) (cs cs' r : List Value), ps.map (·.1) = ps'.map (·.1) → ps.map (fun p => p.2.cells.toList.length) = ps'.map (fun p => p.2.cells.toList.length) → cs.length = cs'.length → fillL place cs ps = some r → ∃ r', Instr.fill place ⟨cs'⟩ ps' = some ⟨r'⟩ ∧ r.length = r'.length := by
  intro ps
  induction ps with
  | nil =>
    intro ps' cs cs' r hp _ hc h
    have : ps' = [] := by simpa using hp
    subst this
    injection h with h; subst h
    exact ⟨cs', rfl, hc⟩
  | cons p ps ih =>
    intro ps' cs cs' r hp hq hc h
    obtain ⟨i, v⟩ := p
    match ps', hp, hq with
    | [], hp, _ => exact absurd hp (by simp)
    | (i', v') :: ps', hp, hq =>
      simp only [List.map_cons, List.cons.injEq] at hp hq
      have e1 : i = i' := hp.1
      subst e1
      have hv := hq.1
      unfold fillL at h
      split at h
      case h_2 => cases h
      rename_i off size hpl
      split at h
      case h_2 => cases h
      rename_i h1 h2
      have h1' := Nat.eq_of_beq_eq_true h1
      have h2' := Nat.le_of_ble_eq_true h2
      obtain ⟨r', k1, k2⟩ := ih ps' _ (putAt cs' off v'.cells.toList) r hp.2 hq.2 (putAt_len2 _ _ _ _ off hc hv) h
      refine ⟨r', ?_, k2⟩
      have hsz : v'.cells.size = size := by rw [← Array.length_toList, ← hv]; exact h1'
      have hle : ¬ (off + v'.cells.size > cs'.length) := by rw [hsz, ← h1', ← hc]; omega
      rw [Instr.fill]
      simp only [hpl]
      rw [if_neg (by simp [hsz]; rw [hsz] at hle; exact Nat.le_of_not_lt hle)]
      rw [← k1]
      congr 1
      rw [← Array.foldl_toList, Array.toList_zipIdx]
      have := foldl_put off v'.cells.toList 0 ⟨cs'⟩ (by simp; omega)
      simpa using this
section
variable {E : FEnv} {γ : Nat → G} {H : AH} {ev : Ev} {ρ : Operand → Value}
theorem aBuild_len (hE : E.toEnv.OK) {t : TypeId} {ps : List (Nat × Value)} {ps' : Array (Nat × Value)} {v : Value} (hp : ps.map (·.1) = ps'.toList.map (·.1)) (hq : ps.map (fun p => p.2.cells.toList.length) = ps'.toList.map (fun p => p.2.cells.toList.length)) (hl : aBuild E.toEnv t ps = some v) :
    ∃ v', v.cells.toList.length = v'.cells.toList.length ∧ ∀ w, (Instr.build t ps').run E.P w = .ok v' w := by
  unfold aBuild at hl
  split at hl
  case h_2 => cases hl
  rename_i z hz
  obtain ⟨i, hi, hiz⟩ : ∃ i, E.P.info? t = some i ∧ i.zero = some z := by
    unfold zeroOf at hz
    split at hz
    case h_2 => cases hz
    rename_i i hi
    split at hz
    case h_2 => cases hz
    rename_i z' hz'
    split at hz
    case h_2 => cases hz
    injection hz with hz; subst hz
    exact ⟨i, hE.inf _ _ hi, hz'⟩
  split at hl
  · rename_i fs hfs
    split at hl
    case h_2 => cases hl
    rename_i pl hpl
    split at hl
    case h_2 => cases hl
    rename_i cs hcs
    injection hl with hl; subst hl
    obtain ⟨r', k1, k2⟩ := fill_len _ ps ps'.toList _ z.cells.toList cs hp hq rfl hcs
    refine ⟨.agg ⟨r'⟩, k2, fun w => run_build w t ps' ⟨r'⟩ ?_⟩
    unfold Program.built
    simp only [hi, hE.und _ _ hfs, hiz, placesL_ok hE _ _ hpl]
    simpa using k1
  · rename_i n e hu
    split at hl
    case h_2 => cases hl
    rename_i ie hie
    split at hl
    case h_2 => cases hl
    rename_i cs hcs
    injection hl with hl; subst hl
    obtain ⟨r', k1, k2⟩ := fill_len _ ps ps'.toList _ z.cells.toList cs hp hq rfl hcs
    refine ⟨.agg ⟨r'⟩, k2, fun w => run_build w t ps' ⟨r'⟩ ?_⟩
    unfold Program.built
    simp only [hi, hE.und _ _ hu, hiz, hE.inf _ _ hie]
    simpa using k1
  · cases hl
theorem aBuild_pure (hE : E.toEnv.OK) {n : Nat} {t : TypeId} {ps : List (Nat × Value)} {ps' : Array (Nat × Value)} {v : Value} (hp : PRel γ n ps ps'.toList) (hl : aBuild E.toEnv t ps = some v) :
    ∃ v', VRel γ n v v' ∧ ∀ w, (Instr.build t ps').run E.P w = .ok v' w := by
  unfold aBuild at hl
  split at hl
  case h_2 => cases hl
  rename_i z hz
  obtain ⟨hz1, hz2⟩ := zeroOf_ok hE hz γ n default
  obtain ⟨i, hi, hiz⟩ : ∃ i, E.P.info? t = some i ∧ i.zero = some z := by
    unfold zeroOf at hz
    split at hz
    case h_2 => cases hz
    rename_i i hi
    split at hz
    case h_2 => cases hz
    rename_i z' hz'
    split at hz
    case h_2 => cases hz
    injection hz with hz; subst hz
    exact ⟨i, hE.inf _ _ hi, hz'⟩
  split at hl
  · rename_i fs hfs
    split at hl
    case h_2 => cases hl
    rename_i pl hpl
    split at hl
    case h_2 => cases hl
    rename_i cs hcs
    injection hl with hl; subst hl
    obtain ⟨r', k1, k2⟩ := fill_ok _ ps ps'.toList _ _ cs hp hz2.cells hcs
    refine ⟨.agg ⟨r'⟩, .mkAgg k2, fun w => run_build w t ps' ⟨r'⟩ ?_⟩
    unfold Program.built
    simp only [hi, hE.und _ _ hfs, hiz, placesL_ok hE _ _ hpl]
    simpa using k1
  · rename_i m e hu
    split at hl
    case h_2 => cases hl
    rename_i ie hie
    split at hl
    case h_2 => cases hl
    rename_i cs hcs
    injection hl with hl; subst hl
    obtain ⟨r', k1, k2⟩ := fill_ok _ ps ps'.toList _ _ cs hp hz2.cells hcs
    refine ⟨.agg ⟨r'⟩, .mkAgg k2, fun w => run_build w t ps' ⟨r'⟩ ?_⟩
    unfold Program.built
    simp only [hi, hE.und _ _ hu, hiz, hE.inf _ _ hie]
    simpa using k1
  · cases hl
noncomputable def ShRel (ev : Ev) (ρ : Operand → Value) : Prop := ∀ x v, ev x = some v → v.cells.toList.length = (ρ x).cells.toList.length
theorem evParts_len (he : ShRel ev ρ) : ∀ (l : List (Nat × Operand)) (r : List (Nat × Value)), evParts ev l = some r → r.map (·.1) = (l.map fun p => (p.1, ρ p.2)).map (·.1) ∧ r.map (fun p => p.2.cells.toList.length) = (l.map fun p => (p.1, ρ p.2)).map (fun p => p.2.cells.toList.length)
  | [], r, h => by injection h with h; subst h; exact ⟨rfl, rfl⟩
  | (i, x) :: l, r, h => by
    unfold evParts at h
    split at h
    case h_2 => cases h
    rename_i v r' hv hr
    injection h with h; subst h
    have := evParts_len he l r' hr
    have e := he x v hv
    exact ⟨by simp only [List.map_cons, this.1], by simp only [List.map_cons, this.2, e]⟩
theorem pure_exec {o : Oper} (hm : pureOp o.op = true) : ∃ t ps, o.op = .build t ps := by
  unfold pureOp at hm
  split at hm
  · rename_i t ps e; exact ⟨t, ps, e⟩
  · cases hm
theorem pure_len (hE : E.OK) (he : ShRel ev ρ) {o : Oper} (hm : pureOp o.op = true) {v : Value} {H' : AH} (ha : aop E ev o.op H = some (.val v, H')) :
    ∃ v', v.cells.toList.length = v'.cells.toList.length ∧ ∀ w, (execOp ρ o).run E.P w = .ok (.value v') w := by
  obtain ⟨t, ps, e⟩ := pure_exec hm
  rw [e] at ha
  unfold aop at ha
  simp only at ha
  split at ha
  case h_2 => cases ha
  rename_i l hx
  unfold ofVal at ha
  split at ha
  case h_2 => cases ha
  rename_i u hu
  injection ha with ha; injection ha with e1 e2
  injection e1 with e1
  subst e1
  obtain ⟨k1, k2⟩ := evParts_len he _ _ hx
  obtain ⟨v', g1, g2⟩ := aBuild_len (ps' := ps.map fun p => (p.1, ρ p.2)) hE.env (by rw [Array.toList_map]; exact k1) (by rw [Array.toList_map]; exact k2) hu
  exact ⟨v', g1, fun w => by unfold execOp; rw [e]; simp [g2 w]⟩
theorem pure_rel (hE : E.OK) {n : Nat} (he : EvRel γ n ev ρ) {o : Oper} (hm : pureOp o.op = true) {v : Value} {H' : AH} (ha : aop E ev o.op H = some (.val v, H')) :
    ∃ v', VRel γ n v v' ∧ ∀ w, (execOp ρ o).run E.P w = .ok (.value v') w := by
  obtain ⟨t, ps, e⟩ := pure_exec hm
  rw [e] at ha
  unfold aop at ha
  simp only at ha
  split at ha
  case h_2 => cases ha
  rename_i l hx
  unfold ofVal at ha
  split at ha
  case h_2 => cases ha
  rename_i u hu
  injection ha with ha; injection ha with e1 e2
  injection e1 with e1
  subst e1
  obtain ⟨v', g1, g2⟩ := aBuild_pure (ps' := ps.map fun p => (p.1, ρ p.2)) hE.env (by rw [Array.toList_map]; exact evParts_ok he _ _ hx) hu
  exact ⟨v', g1, fun w => by unfold execOp; rw [e]; simp [g2 w]⟩
end
end Go.Proofs.YtohgenhjdgdkgaaGreatDoor.Sh
