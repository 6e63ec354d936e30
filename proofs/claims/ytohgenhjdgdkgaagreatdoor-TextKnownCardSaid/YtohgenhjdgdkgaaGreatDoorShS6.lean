import Derived.Test.YtohgenhjdgdkgaaGreatDoorShS5
import Derived.Laws.Tables
import Derived.Laws.MakeOwn
import Derived.Laws.Slices
namespace Go.Proofs.YtohgenhjdgdkgaaGreatDoor.Sh
open Go.RowKit
set_option linter.unusedVariables false
set_option linter.unusedSimpArgs false

/-! ### parts of values -/
section
variable {E : Env} {base : Bs} {w0 w : World} {γ : Nat → G} {H : AH}
noncomputable def aPart (E : Env) (t : TypeId) (cs : List Value) (off : Nat) : Option Value :=
  match E.und t with
  | some d => match aggD d with
    | true => match E.inf t with
      | some i => some (.agg ⟨(cs.drop off).take i.size⟩)
      | none => none
    | false => cs[off]?
  | none => none
theorem aPart_ok (hE : E.OK) {t : TypeId} {cs cs' : List Value} {off : Nat} {v : Value} {n : Nat} (hc : LRel γ n cs cs') (hl : aPart E t cs off = some v) (w : World) : ∃ v', (part t ⟨cs'⟩ off).run E.P w = .ok v' w ∧ VRel γ n v v' := by
  unfold aPart at hl
  split at hl
  case h_2 => cases hl
  rename_i d hd
  split at hl
  · rename_i hag
    split at hl
    case h_2 => cases hl
    rename_i i hi
    injection hl with hl; subst hl
    refine ⟨.agg ⟨(cs'.drop off).take i.size⟩, ?_, .mkAgg ((hc.drop off).take i.size)⟩
    simp [part, isAgg_run (hE.und _ _ hd), hag, sizeOf_run (hE.inf _ _ hi)]
  · rename_i hag
    obtain ⟨v', h1, h2⟩ := hc.get hl
    refine ⟨v', ?_, h2⟩
    have h1' : (⟨cs'⟩ : Array Value)[off]? = some v' := by simpa using h1
    simp [part, isAgg_run (hE.und _ _ hd), hag, h1']
noncomputable def aFieldV (E : Env) (t : TypeId) (x : Value) (f : Nat) : Option Value :=
  match x with
  | .agg a => match E.und t with
    | some (.struct fs) => match fs.toList[f]? with
      | some fd => aPart E fd.type a.toList fd.offset
      | none => none
    | _ => none
  | _ => none
theorem aFieldV_ok (hE : E.OK) (h : HRel γ base w0 H w) {t : TypeId} {x x' v : Value} {f : Nat} (hx : VRel γ H.next x x') (hl : aFieldV E t x f = some v) : VOK E.P base w0 γ H w (Instr.field t x' f) v H := by
  unfold aFieldV at hl
  split at hl
  case h_2 => cases hl
  obtain ⟨a', rfl, hr⟩ := hx.agg_inv
  split at hl
  case h_2 => cases hl
  rename_i fs hfs
  split at hl
  case h_2 => cases hl
  rename_i fd hfd
  have hfd' : fs[f]? = some fd := by rw [← Array.getElem?_toList]; exact hfd
  obtain ⟨v', h1, h2⟩ := aPart_ok hE hr hl w
  refine VOK.same h (v' := v') ?_ h2
  simp [Instr.field, run_underlying (hE.und _ _ hfs), hfd', asAgg, h1]
noncomputable def aIndex (E : Env) (t : TypeId) (x ix : Value) : Option Value :=
  match ix with
  | .int _ (.ofNat j) => match E.und t, x with
    | some (.array n e), .agg a => match Nat.ble (j + 1) n, E.inf e with
      | true, some i => aPart E e a.toList (j * i.size)
      | _, _ => none
    | some .string, .string s => match s.data.toList[j]? with
      | some b => some (.int .u8 (.ofNat b.toNat))
      | none => none
    | _, _ => none
  | _ => none
theorem aIndex_ok (hE : E.OK) (h : HRel γ base w0 H w) {t : TypeId} {x x' ix ix' v : Value} (hx : VRel γ H.next x x') (hi : VRel γ H.next ix ix') (hl : aIndex E t x ix = some v) : VOK E.P base w0 γ H w (Instr.index t x' ix') v H := by
  unfold aIndex at hl
  split at hl
  case h_2 => cases hl
  rename_i k j
  rw [hi.int_inv]
  split at hl
  · rename_i n e a hu
    obtain ⟨a', rfl, hr⟩ := hx.agg_inv
    split at hl
    case h_2 => cases hl
    rename_i i hle hi
    have hlt := Nat.le_of_ble_eq_true hle
    obtain ⟨v', h1, h2⟩ := aPart_ok hE hr hl w
    refine VOK.same h (v' := v') ?_ h2
    have h3 : (0 : Int) ≤ Int.ofNat j := Int.natCast_nonneg j
    have h4 : (j : Int) < (n : Int) := by omega
    simp [Instr.index, asIntOf, run_underlying (hE.und _ _ hu), sizeOf_run (hE.inf _ _ hi), h4, h1]
    intro q; omega
  · rename_i s hu
    rw [hx.string_inv]
    split at hl
    case h_2 => cases hl
    rename_i b hb
    injection hl with hl; subst hl
    refine VOK.same h (v' := .int .u8 (.ofNat b.toNat)) ?_ (.int _ _)
    have hb' : s[j]? = some b := by
      have hj := (List.getElem?_eq_some_iff.1 hb).1
      have hj' : j < s.size := by have e : s.data.toList.length = s.size := Array.length_toList; omega
      rw [getElem?_pos s j hj']
      have := (List.getElem?_eq_some_iff.1 hb).2
      rw [← this]; rfl
    simp [Instr.index, asIntOf, run_underlying (hE.und _ _ hu), hb']
  · cases hl
noncomputable def aExtract (x : Value) (i : Nat) : Option Value :=
  match x with
  | .tuple a => a.toList[i]?
  | _ => none
theorem aExtract_ok {P : Program} (h : HRel γ base w0 H w) {x x' v : Value} {i : Nat} (hx : VRel γ H.next x x') (hl : aExtract x i = some v) : VOK P base w0 γ H w (Instr.extract x' i) v H := by
  unfold aExtract at hl
  split at hl
  case h_2 => cases hl
  obtain ⟨a', rfl, hr⟩ := hx.tup_inv
  obtain ⟨v', h1, h2⟩ := hr.get hl
  refine VOK.same h (v' := v') ?_ h2
  have h1' : (⟨a'⟩ : Array Value)[i]? = some v' := by rw [← Array.getElem?_toList]; exact h1
  simp only [Instr.extract]
  rw [h1']
  rfl
/-! building -/
noncomputable def fillL (place : Nat → Option (Nat × Nat)) (cells : List Value) : List (Nat × Value) → Option (List Value)
  | [] => some cells
  | (i, v) :: rest => match place i with
    | some (off, size) => match Nat.beq v.cells.toList.length size, Nat.ble (off + v.cells.toList.length) cells.length with
      | true, true => fillL place (putAt cells off v.cells.toList) rest
      | _, _ => none
    | none => none
noncomputable def PRel (γ : Nat → G) (n : Nat) (a b : List (Nat × Value)) : Prop := a.map (·.1) = b.map (·.1) ∧ LRel γ n (a.map (·.2)) (b.map (·.2))
theorem foldl_put (off : Nat) : ∀ (vs : List Value) (k : Nat) (cs : Array Value), off + k + vs.length ≤ cs.size → (vs.zipIdx k).foldl (fun (cs : Array Value) (cj : Value × Nat) => cs.setIfInBounds (off + cj.2) cj.1) cs = ⟨putAt cs.toList (off + k) vs⟩ := by
  intro vs
  induction vs with
  | nil => intro k cs _; simp [putAt]
  | cons v vs ih =>
    intro k cs h
    simp only [List.length_cons] at h
    rw [List.zipIdx_cons, List.foldl_cons, ih (k + 1) _ (by simp; omega)]
    congr 1
    apply List.ext_getElem?
    intro j
    rw [putAt_get (by simp; omega), putAt_get (by simp; omega)]
    by_cases e : j = off + k
    · subst e
      rw [if_neg (by omega), if_pos (by simp)]
      rw [Array.toList_setIfInBounds, List.getElem?_set, if_pos rfl, if_pos (by simp; omega)]
      simp
    · by_cases h1 : off + (k + 1) ≤ j ∧ j < off + (k + 1) + vs.length
      · rw [if_pos h1, if_pos (by simp; omega), show j - (off + k) = (j - (off + (k + 1))) + 1 by omega]; simp
      · rw [if_neg h1, if_neg (by simp; omega), Array.toList_setIfInBounds, List.getElem?_set_ne (by omega)]
theorem putAt_rel {n : Nat} {a a' b b' : List Value} (h : LRel γ n a a') (k : LRel γ n b b') (i : Nat) : LRel γ n (putAt a i b) (putAt a' i b') := by
  unfold putAt
  rw [← k.1]
  exact (h.take i).append (k.append (h.drop _))
theorem fill_ok {n : Nat} (place : Nat → Option (Nat × Nat)) : ∀ (ps ps' : List (Nat × Value)) (cs cs' r : List Value), PRel γ n ps ps' → LRel γ n cs cs' → fillL place cs ps = some r → ∃ r', Instr.fill place ⟨cs'⟩ ps' = some ⟨r'⟩ ∧ LRel γ n r r' := by
  intro ps
  induction ps with
  | nil =>
    intro ps' cs cs' r hp hc h
    have : ps' = [] := by have := hp.1; simpa using this
    subst this
    injection h with h; subst h
    exact ⟨cs', rfl, hc⟩
  | cons p ps ih =>
    intro ps' cs cs' r hp hc h
    obtain ⟨i, v⟩ := p
    match ps', hp with
    | [], hp => exact absurd hp.1 (by simp)
    | (i', v') :: ps', hp =>
      have e1 : i = i' := by have := hp.1; simp at this; exact this.1
      subst e1
      have hv : VRel γ n v v' := hp.2.2 0 _ _ rfl rfl
      have hps : PRel γ n ps ps' := ⟨by have := hp.1; simp at this; exact this, by have := hp.2.1; simpa using this, fun j x y hx hy => hp.2.2 (j + 1) x y (by simpa using hx) (by simpa using hy)⟩
      unfold fillL at h
      split at h
      case h_2 => cases h
      rename_i off size hpl
      split at h
      case h_2 => cases h
      rename_i h1 h2
      have h1' := Nat.eq_of_beq_eq_true h1
      have h2' := Nat.le_of_ble_eq_true h2
      have hvc := hv.cells
      obtain ⟨r', k1, k2⟩ := ih ps' _ (putAt cs' off v'.cells.toList) r hps (putAt_rel hc hvc off) h
      refine ⟨r', ?_, k2⟩
      have hsz : v'.cells.size = size := by rw [← Array.length_toList, ← hvc.1]; exact h1'
      have hcs := hc.1
      have hle : ¬ (off + v'.cells.size > cs'.length) := by rw [hsz, ← h1', ← hcs]; omega
      rw [Instr.fill]
      simp only [hpl]
      rw [if_neg (by simp [hsz]; rw [hsz] at hle; exact Nat.le_of_not_lt hle)]
      rw [← k1]
      congr 1
      rw [← Array.foldl_toList, Array.toList_zipIdx]
      have := foldl_put off v'.cells.toList 0 ⟨cs'⟩ (by simp; omega)
      simpa using this
noncomputable def placesL (E : Env) : List Field → Option (List (Nat × Nat))
  | [] => some []
  | f :: fs => match E.inf f.type with
    | some i => match placesL E fs with
      | some l => some ((f.offset, i.size) :: l)
      | none => none
    | none => none
theorem placesL_ok (hE : E.OK) : ∀ (fs : List Field) (l : List (Nat × Nat)), placesL E fs = some l → fs.mapM (fun f => (E.P.info? f.type).map fun i => (f.offset, i.size)) = some l
  | [], l, h => by injection h with h; subst h; rfl
  | f :: fs, l, h => by
    unfold placesL at h
    split at h
    case h_2 => cases h
    rename_i i hi
    split at h
    case h_2 => cases h
    rename_i l' hl'
    injection h with h; subst h
    simp [List.mapM_cons, hE.inf _ _ hi, placesL_ok hE fs l' hl']
noncomputable def aBuild (E : Env) (t : TypeId) (ps : List (Nat × Value)) : Option Value :=
  match zeroOf E t with
  | some z => match E.und t with
    | some (.struct fs) => match placesL E fs.toList with
      | some pl => match fillL (fun i => pl[i]?) z.cells.toList ps with
        | some cs => some (.agg ⟨cs⟩)
        | none => none
      | none => none
    | some (.array _ e) => match E.inf e with
      | some ie => match fillL (fun i => some (i * ie.size, ie.size)) z.cells.toList ps with
        | some cs => some (.agg ⟨cs⟩)
        | none => none
      | none => none
    | _ => none
  | none => none
theorem aBuild_ok (hE : E.OK) (h : HRel γ base w0 H w) {t : TypeId} {ps : List (Nat × Value)} {ps' : Array (Nat × Value)} {v : Value} (hp : PRel γ H.next ps ps'.toList) (hl : aBuild E t ps = some v) : VOK E.P base w0 γ H w (Instr.build t ps') v H := by
  unfold aBuild at hl
  split at hl
  case h_2 => cases hl
  rename_i z hz
  obtain ⟨hz1, hz2⟩ := zeroOf_ok hE hz γ H.next w
  obtain ⟨i, hi, hiz⟩ : ∃ i, E.P.info? t = some i ∧ i.zero = some z := by
    unfold zeroOf at hz
    split at hz
    case h_2 => cases hz
    rename_i i hi
    split at hz
    case h_2 => cases hz
    rename_i z' hz'
    split at hz
    case h_2 => cases hz
    injection hz with hz; subst hz
    exact ⟨i, hE.inf _ _ hi, hz'⟩
  split at hl
  · rename_i fs hfs
    split at hl
    case h_2 => cases hl
    rename_i pl hpl
    split at hl
    case h_2 => cases hl
    rename_i cs hcs
    injection hl with hl; subst hl
    obtain ⟨r', k1, k2⟩ := fill_ok _ ps ps'.toList _ _ cs hp hz2.cells hcs
    refine VOK.same h (v' := .agg ⟨r'⟩) ?_ (.mkAgg k2)
    refine run_build w t ps' ⟨r'⟩ ?_
    unfold Program.built
    simp only [hi, hE.und _ _ hfs, hiz, placesL_ok hE _ _ hpl]
    simpa using k1
  · rename_i n e hu
    split at hl
    case h_2 => cases hl
    rename_i ie hie
    split at hl
    case h_2 => cases hl
    rename_i cs hcs
    injection hl with hl; subst hl
    obtain ⟨r', k1, k2⟩ := fill_ok _ ps ps'.toList _ _ cs hp hz2.cells hcs
    refine VOK.same h (v' := .agg ⟨r'⟩) ?_ (.mkAgg k2)
    refine run_build w t ps' ⟨r'⟩ ?_
    unfold Program.built
    simp only [hi, hE.und _ _ hu, hiz, hE.inf _ _ hie]
    simpa using k1
  · cases hl
/-- A row of zeros. -/
noncomputable def zerosL (z : List Value) : Nat → List Value
  | 0 => []
  | n + 1 => z ++ zerosL z n
theorem zerosL_len (z : List Value) (n : Nat) : (zerosL z n).length = n * z.length := by
  induction n with
  | zero => simp [zerosL]
  | succ n ih => simp [zerosL, ih, Nat.add_mul]; omega
theorem zerosL_get (z : List Value) (n j : Nat) (h : j < n * z.length) : (zerosL z n)[j]? = z[j % z.length]? := by
  induction n generalizing j with
  | zero => simp at h
  | succ n ih =>
    rw [zerosL]
    by_cases hj : j < z.length
    · rw [List.getElem?_append_left hj, Nat.mod_eq_of_lt hj]
    · rw [List.getElem?_append_right (by omega), ih _ (by rw [Nat.add_mul] at h; omega)]
      rw [Nat.mod_eq_sub_mod (a := j) (by omega)]
theorem zerosL_eq (z : List Value) (n : Nat) : ((Array.range (n * z.length)).map (fun i => (⟨z⟩ : Array Value)[i % z.length]!)).toList = zerosL z n := by
  apply List.ext_getElem?
  intro j
  rw [Array.toList_map, Array.toList_range, List.getElem?_map]
  by_cases h : j < n * z.length
  · rw [List.getElem?_range h, zerosL_get z n j h]
    have hz : 0 < z.length := by false_or_by_contra; have : z.length = 0 := by omega
                                 rw [this] at h; simp at h
    have hm := Nat.mod_lt j hz
    simp [hm]
  · rw [List.getElem?_eq_none (by simp; omega), List.getElem?_eq_none (by rw [zerosL_len]; omega)]; rfl
theorem zerosL_rel {n : Nat} {z z' : List Value} (h : LRel γ n z z') (m : Nat) : LRel γ n (zerosL z m) (zerosL z' m) := by
  induction m with
  | zero => exact LRel.nil
  | succ m ih => exact h.append ih
noncomputable def aBuildSlice (E : Env) (t : TypeId) (len : Nat) (ps : List (Nat × Value)) (H : AH) : Option (Value × AH) :=
  match E.und t with
  | some (.slice e) => match E.inf e, zeroOf E e with
    | some i, some z => match Nat.beq z.cells.toList.length i.size, Nat.ble (len * i.size) 16777216, i.size with
      | true, true, k + 1 => match fillL (fun j => some (j * i.size, i.size)) (zerosL z.cells.toList len) ps with
        | some cs => some (.slice (some ⟨H.next, 0, none⟩) len len, H.newRow cs e i.size)
        | none => none
      | _, _, _ => none
    | _, _ => none
  | _ => none
theorem fill_size (place : Nat → Option (Nat × Nat)) : ∀ (ps : List (Nat × Value)) (cs r : List Value), fillL place cs ps = some r → r.length = cs.length := by
  intro ps
  induction ps with
  | nil => intro cs r h; injection h with h; subst h; rfl
  | cons p ps ih =>
    intro cs r h
    obtain ⟨i, v⟩ := p
    unfold fillL at h
    split at h
    case h_2 => cases h
    split at h
    case h_2 => cases h
    rename_i h1 h2
    rw [ih _ _ h, putAt_len (Nat.le_of_ble_eq_true h2)]
theorem aBuildSlice_ok (hE : E.OK) (h : HRel γ base w0 H w) {t : TypeId} {len : Nat} {ps : List (Nat × Value)} {ps' : Array (Nat × Value)} {v : Value} {H' : AH} (hp : PRel γ H.next ps ps'.toList) (hl : aBuildSlice E t len ps H = some (v, H')) : VOK E.P base w0 γ H w (Instr.buildSlice t len ps') v H' := by
  unfold aBuildSlice at hl
  split at hl
  case h_2 => cases hl
  rename_i e hu
  split at hl
  case h_2 => cases hl
  rename_i i z hi hz
  obtain ⟨hz1, hz2⟩ := zeroOf_ok hE hz γ H.next w
  split at hl
  case h_2 => cases hl
  rename_i k hbeq hble hk
  have hzl := Nat.eq_of_beq_eq_true hbeq
  have hb := Nat.le_of_ble_eq_true hble
  split at hl
  case h_2 => cases hl
  rename_i cs hcs
  injection hl with hl; injection hl with e1 e2; subst e1 e2
  obtain ⟨r', k1, k2⟩ := fill_ok _ ps ps'.toList _ (zerosL z.cells.toList len) cs hp (zerosL_rel hz2.cells len) hcs
  have hn := h.newRow k2 ⟨r'⟩ rfl e i.size
  have hlen : cs.length = len * i.size := by rw [fill_size _ _ _ _ hcs, zerosL_len, hzl]
  refine ⟨_, .slice (some ⟨w.heap.size, 0, none⟩) len len, _, upd_ext _ _ _, ?_, ?_, hn⟩
  · have hnb : ¬ (16777216 < len * i.size) := by omega
    have hzz : (Array.range (len * i.size)).map (fun x => z.cells[x % z.cells.size]!) = ⟨zerosL z.cells.toList len⟩ := by
      apply Array.ext'
      have := zerosL_eq z.cells.toList len
      rw [hzl] at this
      simp only [← Array.length_toList, hzl]
      exact this
    by_cases h0 : len * i.size = 0
    · have hl0 : len = 0 := by
        rcases Nat.mul_eq_zero.1 h0 with q | q
        · exact q
        · omega
      subst hl0
      have hz0 : (⟨zerosL z.cells.toList 0⟩ : Array Value) = #[] := rfl
      rw [hz0] at k1
      have hz9 : ((Array.range (0 * i.size)).map (fun x => (#[] : Array Value)[x % (#[] : Array Value).size]!)) = #[] := by rw [h0]; simp
      simp only [Instr.buildSlice, Sem.run_bind, run_underlying (hE.und _ _ hu), Result.andThen_ok, sizeOf_run (hE.inf _ _ hi)]
      rw [if_neg (by simp)]
      simp only [Sem.run_bind, Sem.run_pure, Result.andThen_ok, if_pos h0, hz9, k1, newRow, run_newObj_alloc]
    · rw [hzz.symm] at k1
      simp only [Instr.buildSlice, Sem.run_bind, run_underlying (hE.und _ _ hu), Result.andThen_ok, sizeOf_run (hE.inf _ _ hi)]
      rw [if_neg (by simpa using hb)]
      simp only [Sem.run_bind, Sem.run_pure, Result.andThen_ok, if_neg h0, hz1, k1, newRow, run_newObj_alloc]
  · have := VRel.slice (γ := upd γ H.next ⟨w.heap.size, 0, cs.length, cs.length, i.size⟩) (n := H.next + 1) H.next 0 len len len (by omega) (Nat.le_refl _) (by rw [upd_at]; simp [hlen]) (.inl rfl)
    rw [upd_at] at this
    exact this
end
end Go.Proofs.YtohgenhjdgdkgaaGreatDoor.Sh
