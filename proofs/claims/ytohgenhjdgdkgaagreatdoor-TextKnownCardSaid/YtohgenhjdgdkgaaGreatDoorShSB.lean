import Derived.Test.YtohgenhjdgdkgaaGreatDoorShSA
import Derived.Laws.IdiomCopy
import Derived.Laws.CopyRow
import Derived.Laws.RangeString
namespace Go.Proofs.YtohgenhjdgdkgaaGreatDoor.Sh
open Go.RowKit
set_option linter.unusedVariables false
set_option linter.unusedSimpArgs false

section
variable {E : Env} {base : Bs} {w0 w : World} {γ : Nat → G} {H : AH}
/-! append, copy -/
noncomputable def putS (s : ByteArray) : List Value := s.data.toList.map fun b => .int .u8 (.ofNat b.toNat)
noncomputable def srcCells (E : Env) (xt : TypeId) (x : Value) (size : Nat) (n : Nat) (H : AH) : Option (List Value) :=
  match E.und xt, x with
  | some (.slice _), .slice none 0 0 => match n with
    | 0 => some []
    | _ => none
  | some (.slice _), .slice (some ⟨b, o, none⟩) _ _ => H.read b o (n * size)
  | some .string, .string s => match Nat.beq size 1 with
    | true => some ((putS s).take n)
    | false => none
  | _, _ => none
noncomputable def srcLen : Value → Option Nat
  | .slice none 0 0 => some 0
  | .slice (some _) l _ => some l
  | .string s => some s.data.toList.length
  | _ => none
theorem putS_rel (s : ByteArray) (n : Nat) : LRel γ n (putS s) (putS s) := by
  refine ⟨rfl, fun i x y h1 h2 => ?_⟩
  rw [h1] at h2; injection h2 with h2; subst h2
  unfold putS at h1
  rw [List.getElem?_map] at h1
  cases hb : s.data.toList[i]? with
  | none => rw [hb] at h1; cases h1
  | some b => rw [hb] at h1; injection h1 with h1; subst h1; exact .int _ _
theorem src_ok (hE : E.OK) (h : HRel γ base w0 H w) {xt : TypeId} {x x' : Value} {size n l : Nat} {xs : List Value} (hx : VRel γ H.next x x') (hlen : srcLen x = some l) (hn : n ≤ l) (hc : srcCells E xt x size n H = some xs) :
    ∃ xs' : List Value, LRel γ H.next xs xs' ∧ xs.length = n * size ∧ (Builtin.lenOf x').run E.P w = .ok l w ∧ (∀ w1 : World, w1.heap = w.heap → (Builtin.firstCells size n x').run E.P w1 = .ok ⟨xs'⟩ w1) ∧ ((∃ u, E.P.underlying xt = some (.slice u)) ∨ E.P.underlying xt = some .string) := by
  unfold srcCells at hc
  split at hc
  · rename_i u hu
    rw [hx.nilslice_inv.2.2]
    injection hlen with hlen; subst hlen
    split at hc
    case h_2 => cases hc
    injection hc with hc; subst hc
    exact ⟨[], .nil, by simp, by simp [Builtin.lenOf], fun w1 _ => by simp [Builtin.firstCells], .inl ⟨_, hE.und _ _ hu⟩⟩
  · rename_i u b o l' c hu
    injection hlen with hlen; subst hlen
    obtain ⟨_, hb, _, _, c', rfl, _⟩ := hx.slice_inv
    obtain ⟨xs', h1, h2, h3⟩ := h.read E.P hb hc
    refine ⟨xs', h1, h2, by simp [Builtin.lenOf], fun w1 hw => ?_, .inl ⟨_, hE.und _ _ hu⟩⟩
    refine run_firstCells_some (P := E.P) w1 size n _ l' c' xs' (by rw [← h1.1, h2]) (fun j v hj => ?_)
    have := h3 j v hj
    unfold World.cell? at this ⊢
    rw [hw]; exact this
  · rename_i s hu
    injection hlen with hlen
    rw [hx.string_inv]
    split at hc
    case h_2 => cases hc
    rename_i hs
    have hs' := Nat.eq_of_beq_eq_true hs
    subst hs'
    injection hc with hc; subst hc
    have e1 : s.data.toList.length = s.size := Array.length_toList
    refine ⟨(putS s).take n, (putS_rel s _).take n, by unfold putS; simp; omega, by simp [Builtin.lenOf]; omega, fun w1 hw => ?_, .inr (hE.und _ _ hu)⟩
    have : ((s.extract 0 n).data.map fun b => Value.int .u8 (b.toNat : Int)) = ⟨(putS s).take n⟩ := by
      apply Array.ext'
      rw [ByteArray.data_extract, Array.toList_map, Array.toList_extract]
      unfold putS
      rw [List.map_take]
      simp
    simp only [Builtin.firstCells, Sem.run_pure]
    rw [this]
  · cases hc
noncomputable def aAppend (E : Env) (t xt : TypeId) (s x : Value) (H : AH) : Option (Value × AH) :=
  match E.und t, srcLen x with
  | some (.slice e), some n => match E.inf e, zeroOf E e with
    | some i, some z => match Nat.beq z.cells.toList.length i.size, srcCells E xt x i.size n H with
      | true, some xs => H.app e i.size i.bytes s xs n
      | _, _ => none
    | _, _ => none
  | _, _ => none
theorem aAppend_ok (hE : E.OK) (h : HRel γ base w0 H w) {t xt ty : TypeId} {s s' x x' v : Value} {H' : AH} (hs : VRel γ H.next s s') (hx : VRel γ H.next x x') (hl : aAppend E t xt s x H = some (v, H')) : VOK E.P base w0 γ H w (Builtin.append_ #[t, xt] ty #[s', x']) v H' := by
  unfold aAppend at hl
  split at hl
  case h_2 => cases hl
  rename_i e n hu hlen
  split at hl
  case h_2 => cases hl
  rename_i i z hi hz
  split at hl
  case h_2 => cases hl
  rename_i xs hzs hsrc
  obtain ⟨xs', h1, h2, h3, h4, h5⟩ := src_ok hE h hx hlen (Nat.le_refl _) hsrc
  have A : AppT E.P t xt e i z := ⟨hE.und _ _ hu, h5, hE.inf _ _ hi, zeroOf_inf hz hi, by rw [← Array.length_toList]; exact Nat.eq_of_beq_eq_true hzs⟩
  exact h.app A hs h1 h2 h3 h4 hl ty
noncomputable def aCopy (E : Env) (t xt : TypeId) (s x : Value) (H : AH) : Option (Value × AH) :=
  match E.und t, srcLen x, s with
  | some (.slice e), some n, .slice none 0 0 => match E.inf e, srcCells E xt x 0 0 H with
    | some i, some xs => match srcCells E xt x i.size 0 H with
      | some _ => some (.int .i64 (.ofNat 0), H)
      | none => none
    | _, _ => none
  | some (.slice e), some n, .slice (some ⟨b, o, none⟩) l _ => match E.inf e with
    | some i => match srcCells E xt x i.size (Nat.min n l) H with
      | some xs => match H.put b o xs with
        | some H' => some (.int .i64 (.ofNat (Nat.min n l)), H')
        | none => none
      | none => none
    | none => none
  | _, _, _ => none
theorem aCopy_ok (hE : E.OK) (h : HRel γ base w0 H w) {t xt ty : TypeId} {s s' x x' v : Value} {H' : AH} (hs : VRel γ H.next s s') (hx : VRel γ H.next x x') (hl : aCopy E t xt s x H = some (v, H')) : VOK E.P base w0 γ H w (Builtin.copy_ #[t, xt] ty #[s', x']) v H' := by
  unfold aCopy at hl
  split at hl
  · rename_i e n hu hlen
    split at hl
    case h_2 => cases hl
    rename_i i xs hi hsrc
    split at hl
    case h_2 => cases hl
    rename_i xs2 hsrc2
    injection hl with hl; injection hl with e1 e2; subst e1 e2
    obtain ⟨xs', h1, h2, h3, h4, h5⟩ := src_ok hE h hx hlen (Nat.zero_le _) hsrc2
    rw [hs.nilslice_inv.2.2]
    refine VOK.same h (v' := .int .i64 (.ofNat 0)) ?_ (.int _ _)
    have hm : Nat.min n 0 = 0 := Nat.min_zero n
    simp [Builtin.copy_, run_underlying (hE.und _ _ hu), h3, sizeOf_run (hE.inf _ _ hi), h4 w rfl, goInt]
  · rename_i e n b o l c hu hlen
    split at hl
    case h_2 => cases hl
    rename_i i hi
    split at hl
    case h_2 => cases hl
    rename_i xs hsrc
    split at hl
    case h_2 => cases hl
    rename_i H1 hput
    injection hl with hl; injection hl with e1 e2; subst e1 e2
    obtain ⟨_, hb, _, _, c', rfl, _⟩ := hs.slice_inv
    obtain ⟨xs', h1, h2, h3, h4, h5⟩ := src_ok hE h hx hlen (Nat.min_le_left _ _) hsrc
    obtain ⟨w', k1, k2, k3, _⟩ := h.put E.P hb hput h1
    refine ⟨γ, .int .i64 (.ofNat (Nat.min n l)), w', by rw [k3]; exact Ext.refl _ _, ?_, .int _ _, k2⟩
    simp only [Builtin.copy_, List.getElem?_toArray, List.getElem?_cons_zero, List.getElem?_cons_succ, Sem.run_bind, run_underlying (hE.und _ _ hu), Result.andThen_ok, h3, sizeOf_run (hE.inf _ _ hi), h4 w rfl, k1, Sem.run_pure, goInt]
    rfl
  · cases hl
/-! maps -/
noncomputable def keyEq : Value → Value → Option Bool
  | .int k a, .int k' b => match kindEq k k' with
    | true => some (eqI a b)
    | false => none
  | .string a, .string b => some (bytesEq a.data.toList b.data.toList)
  | _, _ => none
noncomputable def findL (k : Value) : List MapEntry → Nat → Option (Option (Nat × Value))
  | [], _ => some none
  | e :: es, i => match keyEq k e.key with
    | some true => some (some (i, e.val))
    | some false => findL k es (i + 1)
    | none => none
noncomputable def keyT (E : Env) (t : TypeId) (k : Value) : Bool :=
  match E.und t, k with
  | some (.int _), .int _ _ => true
  | some .string, .string _ => true
  | _, _ => false
theorem bytes_beq (a b : ByteArray) : (a == b) = bytesEq a.data.toList b.data.toList := by
  have h1 : (a == b) = (a.data == b.data) := by cases a; cases b; rfl
  rw [bytesEq_eq, h1, Bool.eq_iff_iff, beq_iff_eq, beq_iff_eq]
  exact ⟨fun q => by rw [q], fun q => Array.ext' q⟩
theorem keyEq_same {d : TypeDesc} {k x k' x' : Value} {n : Nat} {r : Bool} (hd : (∃ i, d = .int i ∧ ∃ a b, k = .int a b) ∨ (d = .string ∧ ∃ s, k = .string s)) (hk : VRel γ n k k') (hx : VRel γ n x x') (h : keyEq k x = some r) : Instr.sameNow d k' x' = some r ∧ k' = k ∧ (r = true → Instr.sameBits 10000 x' k' = true) := by
  unfold keyEq at h
  split at h
  · rename_i a b a' b'
    rw [hk.int_inv, hx.int_inv]
    split at h
    case h_2 => cases h
    rename_i hkk
    have := kindEq_eq hkk
    subst this
    injection h with h; subst h
    rcases hd with ⟨i, rfl, _⟩ | ⟨_, s, hs⟩
    · refine ⟨by simp [Instr.sameNow, eqI_eq], rfl, fun q => ?_⟩
      rw [eqI_eq] at q
      have q' := eq_of_beq q
      subst q'
      simp [Instr.sameBits]
    · cases hs
  · rename_i a b
    rw [hk.string_inv, hx.string_inv]
    injection h with h; subst h
    rcases hd with ⟨i, _, a1, b1, hs⟩ | ⟨rfl, s, hs⟩
    · cases hs
    · refine ⟨by simp [Instr.sameNow, bytes_beq], rfl, fun q => ?_⟩
      have : a = b := by
        rw [bytesEq_eq] at q
        have q' := eq_of_beq q
        apply ByteArray.ext
        exact Array.ext' q'
      subst this
      simp [Instr.sameBits, bytes_beq]
      rw [bytesEq_eq]; simp
  · cases h
theorem findL_ok {d : TypeDesc} {k k' : Value} {n : Nat} (hd : (∃ i, d = .int i ∧ ∃ a b, k = .int a b) ∨ (d = .string ∧ ∃ s, k = .string s)) (hk : VRel γ n k k') : ∀ (es es' : List MapEntry) (i : Nat) (r : Option (Nat × Value)), ESRel γ n es es' → findL k es i = some r →
    (r = none → Instr.findNow d k' es' i = some none) ∧ (∀ j v, r = some (j, v) → ∃ v', Instr.findNow d k' es' i = some (some (j, v')) ∧ VRel γ n v v' ∧ i ≤ j ∧ ∃ e', es'[j - i]? = some e' ∧ Instr.sameBits 10000 e'.key k' = true) := by
  intro es
  induction es with
  | nil =>
    intro es' i r he h
    injection h with h; subst h
    have : es' = [] := List.eq_nil_of_length_eq_zero (by rw [← he.1]; rfl)
    subst this
    exact ⟨fun _ => rfl, (fun j v q => by cases q)⟩
  | cons e es ih =>
    intro es' i r he h
    match es', he with
    | [], he => exact absurd he.1 (by simp)
    | e' :: es', he =>
      have h0 := he.2 0 e e' rfl rfl
      have ht : ESRel γ n es es' := ⟨by have := he.1; simpa using this, fun j x y hx hy => he.2 (j + 1) x y (by simpa using hx) (by simpa using hy)⟩
      unfold findL at h
      split at h
      · rename_i hq
        obtain ⟨s1, s2, s3⟩ := keyEq_same hd hk h0.1 hq
        injection h with h; subst h
        refine ⟨(fun q => by cases q), fun j v q => ?_⟩
        injection q with q; injection q with q1 q2; subst q1 q2
        exact ⟨e'.val, by simp [Instr.findNow, s1], h0.2.1, Nat.le_refl _, e', by simp, s3 rfl⟩
      · rename_i hq
        obtain ⟨s1, s2, s3⟩ := keyEq_same hd hk h0.1 hq
        obtain ⟨g1, g2⟩ := ih es' (i + 1) r ht h
        refine ⟨fun q => by simp [Instr.findNow, s1, g1 q], fun j v q => ?_⟩
        obtain ⟨v', f1, f2, f3, e2, f4, f5⟩ := g2 j v q
        refine ⟨v', by simp [Instr.findNow, s1, f1], f2, by omega, e2, ?_, f5⟩
        rw [show j - i = (j - (i + 1)) + 1 by omega]; simpa using f4
      · cases h
theorem keyT_ok (hE : E.OK) {t : TypeId} {k k' : Value} {n : Nat} (hk : VRel γ n k k') (h : keyT E t k = true) : ∃ d, E.P.underlying t = some d ∧ ((∃ i, d = .int i ∧ ∃ a b, k = .int a b) ∨ (d = .string ∧ ∃ s, k = .string s)) ∧ ∀ (b : Bool) (w : World), (Instr.checkKey b 10000 t k').run E.P w = .ok () w := by
  unfold keyT at h
  split at h
  · rename_i i a b hu
    have hu' := hE.und _ _ hu
    refine ⟨_, hu', .inl ⟨i, rfl, a, b, rfl⟩, fun e w => ?_⟩
    rw [hk.int_inv]
    show (Instr.checkKey e (9999 + 1) t _).run E.P w = _
    rw [Instr.checkKey]
    simp only [Sem.run_bind, run_underlying hu', Result.andThen_ok]
    rfl
  · rename_i s hu
    have hu' := hE.und _ _ hu
    refine ⟨_, hu', .inr ⟨rfl, s, rfl⟩, fun e w => ?_⟩
    rw [hk.string_inv]
    show (Instr.checkKey e (9999 + 1) t _).run E.P w = _
    rw [Instr.checkKey]
    simp only [Sem.run_bind, run_underlying hu', Result.andThen_ok]
    rfl
  · cases h
noncomputable def aMakeMap (E : Env) (t : TypeId) (r : Option Value) (H : AH) : Option (Value × AH) :=
  match r with
  | none => some (.map (some H.next), H.new (.map [] 0) H.next (H.mem H.next))
  | some (.int _ _) => match E.und t with
    | some (.map _ _) => some (.map (some H.next), H.new (.map [] 0) H.next (H.mem H.next))
    | _ => none
  | _ => none
theorem HRel.newMap (h : HRel γ base w0 H w) : HRel (upd γ H.next ⟨w.heap.size, 0, 0, 0, 0⟩) base w0 (H.new (.map [] 0) H.next (H.mem H.next)) (w.alloc (.map #[] 0)) := by
  have hW := h.alloc (.map [] 0) (.map #[] 0) ⟨w.heap.size, 0, 0, 0, 0⟩ rfl H.next (H.next :: H.mem H.next) (by simp) ⟨#[], by rw [upd_at]; show (w.heap.push _)[w.heap.size]? = _; simp, rfl, fun i x y hx => by simp at hx⟩ (fun B q => by cases q)
  obtain ⟨h1, h2, h3, h4, h5, h6, h7, h8, h9⟩ := hW
  refine ⟨h1, h2, h3, h4, h5, h6, ?_, h8, h9⟩
  intro b B hb hB
  have hB' := hB
  rw [AH.new_obj] at hB'
  rw [AH.new_next] at hb
  by_cases e : b = H.next
  · rw [if_pos e] at hB'; cases hB'
  · have := h7 b B (by rw [AH.new_next]; omega) hB
    rw [AH.new_mem] at this ⊢
    by_cases e2 : B.fam = H.next
    · rw [if_pos e2] at this ⊢
      rcases List.mem_cons.1 this with q | q
      · exact absurd q e
      · exact q
    · rw [if_neg e2] at this ⊢; exact this
theorem aMakeMap_ok (hE : E.OK) (h : HRel γ base w0 H w) {t : TypeId} {r r' : Option Value} {v : Value} {H' : AH} (hr : ORelV γ H.next r r') (hl : aMakeMap E t r H = some (v, H')) : VOK E.P base w0 γ H w (Instr.makeMap t r') v H' := by
  have key : (Instr.makeMap t r').run E.P w = .ok (.map (some w.heap.size)) (w.alloc (.map #[] 0)) → v = .map (some H.next) → H' = H.new (.map [] 0) H.next (H.mem H.next) → VOK E.P base w0 γ H w (Instr.makeMap t r') v H' := by
    intro k1 k2 k3
    subst k2 k3
    refine ⟨_, _, _, upd_ext _ _ _, k1, ?_, h.newMap⟩
    have := VRel.map (γ := upd γ H.next ⟨w.heap.size, 0, 0, 0, 0⟩) (n := H.next + 1) H.next (by omega)
    rw [upd_at] at this
    exact this
  unfold aMakeMap at hl
  split at hl
  · injection hl with hl; injection hl with e1 e2
    have : r' = none := by cases r' with
      | none => rfl
      | some y => cases hr
    subst this
    exact key (by simp [Instr.makeMap]) e1.symm e2.symm
  · rename_i k i
    split at hl
    case h_2 => cases hl
    rename_i a b hu
    injection hl with hl; injection hl with e1 e2
    cases r' with
    | none => cases hr
    | some y =>
      have hy : VRel γ H.next (.int k i) y := hr
      rw [hy.int_inv] at key ⊢
      exact key (by simp [Instr.makeMap, run_underlying (hE.und _ _ hu), asInt, asIntOf]) e1.symm e2.symm
  · cases hl
noncomputable def aLookup (E : Env) (t : TypeId) (m k : Value) (ok : Bool) (H : AH) : Option Value :=
  match E.und t with
  | some (.map kt et) => match keyT E kt k, zeroOf E et, (match m with
      | .map none => some []
      | .map (some b) => match H.obj b with
        | .map es _ => some es
        | _ => none
      | _ => none) with
    | true, some z, some es => match findL k es 0 with
      | some (some (_, v)) => some (match ok with | true => .tuple ⟨[v, .bool true]⟩ | false => v)
      | some none => some (match ok with | true => .tuple ⟨[z, .bool false]⟩ | false => z)
      | none => none
    | _, _, _ => none
  | _ => none
noncomputable def lookupIn (t kt et : TypeId) (k : Value) (ok : Bool) (es : Array MapEntry) : Sem Value := do
  Instr.checkKey es.isEmpty 10000 kt k
  let (v, ok') ← match ← Instr.findKey kt k es.toList with
    | some (_, v) => pure (v, true)
    | none => pure (← zeroValue et, false)
  pure (if ok then .tuple #[v, .bool ok'] else v)
theorem lookup_run {P : Program} {t kt et : TypeId} {m k : Value} {ok : Bool} {es : Array MapEntry} (hu : P.underlying t = some (.map kt et)) (hm : (m = .map none ∧ es = #[]) ∨ ∃ r c, m = .map (some r) ∧ (getObj r).run P w = .ok (.map es c) w) : (Instr.lookup t m k ok).run P w = (lookupIn t kt et k ok es).run P w := by
  unfold Instr.lookup lookupIn
  simp only [Sem.run_bind, run_underlying hu, Result.andThen_ok]
  rcases hm with ⟨rfl, rfl⟩ | ⟨r, c, rfl, hg⟩
  · simp only [Sem.run_bind, Sem.run_pure, Result.andThen_ok]; rfl
  · simp only [Sem.run_bind, hg, Sem.run_pure, Result.andThen_ok]; rfl
theorem aLookup_ok (hE : E.OK) (h : HRel γ base w0 H w) {t : TypeId} {m m' k k' v : Value} {ok : Bool} (hm : VRel γ H.next m m') (hk : VRel γ H.next k k') (hl : aLookup E t m k ok H = some v) : VOK E.P base w0 γ H w (Instr.lookup t m' k' ok) v H := by
  unfold aLookup at hl
  split at hl
  case h_2 => cases hl
  rename_i kt et hu
  have hu' := hE.und _ _ hu
  split at hl
  case h_2 => cases hl
  rename_i z es hkt hz hes
  obtain ⟨hz1, hz2⟩ := zeroOf_ok hE hz γ H.next w
  obtain ⟨d, hd, hdd, hck⟩ := keyT_ok hE hk hkt
  obtain ⟨es', hes', hobj⟩ : ∃ es' : Array MapEntry, ESRel γ H.next es es'.toList ∧ ((m' = .map none ∧ es' = #[]) ∨ ∃ r c, m' = .map (some r) ∧ (getObj r).run E.P w = .ok (.map es' c) w) := by
    split at hes
    · injection hes with hes; subst hes
      cases hm
      exact ⟨#[], ⟨rfl, fun i x y hx => by simp at hx⟩, .inl ⟨rfl, rfl⟩⟩
    · rename_i b
      split at hes
      case h_2 => cases hes
      rename_i es2 c hob
      injection hes with hes; subst hes
      cases hm with
      | map _ hb =>
        have hr := h.rel b hb
        rw [hob] at hr
        obtain ⟨es', h1, h2⟩ := hr
        have hg : (getObj (γ b).blk).run E.P w = .ok (.map es' c) w := getObj_run h1 rfl
        exact ⟨es', h2, .inr ⟨_, c, rfl, hg⟩⟩
    · cases hes
  have hrun : (Instr.lookup t m' k' ok).run E.P w = (lookupIn t kt et k' ok es').run E.P w := lookup_run hu' hobj
  have hfk : ∀ r, Instr.findNow d k' es'.toList 0 = some r → (Instr.findKey kt k' es'.toList).run E.P w = .ok r w := fun r hr => by
    simp [Instr.findKey, run_underlying hd, hr]
  split at hl
  · rename_i j u hf
    obtain ⟨u', f1, f2, _⟩ := (findL_ok hdd hk es es'.toList 0 _ hes' hf).2 j u rfl
    injection hl with hl
    refine VOK.same h (v' := if ok then .tuple #[u', .bool true] else u') ?_ ?_
    · rw [hrun]; simp only [lookupIn, Sem.run_bind, hck, hfk _ f1, Result.andThen_ok, Sem.run_pure]
    · subst hl
      cases ok
      · exact f2
      · exact .mkTup (.cons f2 (.cons (.bool _) .nil))
  · rename_i hf
    have f1 := (findL_ok hdd hk es es'.toList 0 _ hes' hf).1 rfl
    injection hl with hl
    refine VOK.same h (v' := if ok then .tuple #[z, .bool false] else z) ?_ ?_
    · rw [hrun]; simp only [lookupIn, Sem.run_bind, hck, hfk _ f1, Result.andThen_ok, Sem.run_pure, hz1]
    · subst hl
      cases ok
      · exact hz2
      · exact .mkTup (.cons hz2 (.cons (.bool _) .nil))
  · cases hl
end
end Go.Proofs.YtohgenhjdgdkgaaGreatDoor.Sh
