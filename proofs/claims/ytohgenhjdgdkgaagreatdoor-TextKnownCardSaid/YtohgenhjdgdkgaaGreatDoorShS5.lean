import Derived.Test.YtohgenhjdgdkgaaGreatDoorShS4
namespace Go.Proofs.YtohgenhjdgdkgaaGreatDoor.Sh
open Go.RowKit
set_option linter.unusedVariables false
set_option linter.unusedSimpArgs false

/-! ### operations -/
structure Env where
  P : Program
  und : Nat → Option TypeDesc
  inf : Nat → Option TypeInfo
  cmp : Nat → Bool
structure Env.OK (E : Env) : Prop where
  und : ∀ t d, E.und t = some d → E.P.underlying t = some d
  inf : ∀ t i, E.inf t = some i → E.P.info? t = some i
  cmp : ∀ t, E.cmp t = true → E.P.stoodInHeld t = false ∧ E.P.eqGuardType E.P.depth t = false ∧ ∀ fs, E.P.underlying t = some (.struct fs) → ∀ f ∈ fs.toList, f.name ≠ "_"
/-- What an operation that hands back a value does. -/
noncomputable def VOK (P : Program) (base : Bs) (w0 : World) (γ : Nat → G) (H : AH) (w : World) (s : Sem Value) (v : Value) (H' : AH) : Prop :=
  ∃ γ' v' w', Ext γ H.next γ' H'.next ∧ s.run P w = .ok v' w' ∧ VRel γ' H'.next v v' ∧ HRel γ' base w0 H' w'
section
variable {P : Program} {base : Bs} {w0 w : World} {γ : Nat → G} {H : AH}
theorem VOK.same (h : HRel γ base w0 H w) {s : Sem Value} {v v' : Value} (hr : s.run P w = .ok v' w) (hv : VRel γ H.next v v') : VOK P base w0 γ H w s v H := ⟨γ, v', w, Ext.refl _ _, hr, hv, h⟩
theorem VRel.int_inv {n : Nat} {k : IntKind} {i : Int} {v' : Value} (h : VRel γ n (.int k i) v') : v' = .int k i := by cases h; rfl
theorem VRel.bool_inv {n : Nat} {b : Bool} {v' : Value} (h : VRel γ n (.bool b) v') : v' = .bool b := by cases h; rfl
theorem VRel.string_inv {n : Nat} {s : ByteArray} {v' : Value} (h : VRel γ n (.string s) v') : v' = .string s := by cases h; rfl
theorem VRel.ptr_inv {n b o : Nat} {sp : Option Nat} {v' : Value} (h : VRel γ n (.pointer (some ⟨b, o, sp⟩)) v') : sp = none ∧ b < n ∧ v' = .pointer (some ⟨(γ b).blk, (γ b).off + o, none⟩) := by cases h; exact ⟨rfl, by assumption, rfl⟩
theorem VRel.nilptr_inv {n : Nat} {v' : Value} (h : VRel γ n (.pointer none) v') : v' = .pointer none := by cases h; rfl
theorem VRel.agg_inv {n : Nat} {a : Array Value} {v' : Value} (h : VRel γ n (.agg a) v') : ∃ a' : List Value, v' = .agg ⟨a'⟩ ∧ LRel γ n a.toList a' := by
  cases h with | agg a a' h1 h2 => exact ⟨a', rfl, h1, h2⟩
theorem VRel.tup_inv {n : Nat} {a : Array Value} {v' : Value} (h : VRel γ n (.tuple a) v') : ∃ a' : List Value, v' = .tuple ⟨a'⟩ ∧ LRel γ n a.toList a' := by
  cases h with | tup a a' h1 h2 => exact ⟨a', rfl, h1, h2⟩
theorem VRel.iface_inv {n : Nat} {t : TypeId} {v v' : Value} (h : VRel γ n (.iface t v) v') : ∃ u, v' = .iface t u ∧ VRel γ n v u := by cases h; exact ⟨_, rfl, by assumption⟩
theorem VRel.nilif_inv {n : Nat} {v' : Value} (h : VRel γ n .nilIface v') : v' = .nilIface := by cases h; rfl
theorem VRel.slice_inv {n l c : Nat} {b o : Nat} {sp : Option Nat} {v' : Value} (h : VRel γ n (.slice (some ⟨b, o, sp⟩) l c) v') : sp = none ∧ b < n ∧ l ≤ c ∧ o + c * (γ b).esz ≤ (γ b).size ∧ ∃ c', v' = .slice (some ⟨(γ b).blk, (γ b).off + o, none⟩) l c' ∧ (c' = c ∨ (o + c * (γ b).esz = (γ b).size ∧ c ≤ c' ∧ o + c' * (γ b).esz = (γ b).lim)) := by
  cases h with | slice _ _ _ _ c' h1 h2 h3 h4 => exact ⟨rfl, h1, h2, h3, c', rfl, h4⟩
theorem VRel.nilslice_inv {n l c : Nat} {v' : Value} (h : VRel γ n (.slice none l c) v') : l = 0 ∧ c = 0 ∧ v' = .slice none 0 0 := by cases h; exact ⟨rfl, rfl, rfl⟩
theorem VRel.cells {n : Nat} {v v' : Value} (h : VRel γ n v v') : LRel γ n v.cells.toList v'.cells.toList := by
  have one : ∀ x y, VRel γ n x y → LRel γ n [x] [y] := fun x y h => LRel.cons h LRel.nil
  cases h with
  | agg a a' h1 h2 => exact ⟨h1, h2⟩
  | bool b => exact one _ _ (.bool b)
  | int k i => exact one _ _ (.int k i)
  | float k i => exact one _ _ (.float k i)
  | string s => exact one _ _ (.string s)
  | nilptr => exact one _ _ .nilptr
  | ptr b o hb => exact one _ _ (.ptr b o hb)
  | nilslice => exact one _ _ .nilslice
  | slice b o l c c' h1 h2 h3 h4 => exact one _ _ (.slice b o l c c' h1 h2 h3 h4)
  | nilmap => exact one _ _ .nilmap
  | map b h => exact one _ _ (.map b h)
  | nilfn => exact one _ _ .nilfn
  | fn f f' a b a' b' h1 h2 h3 h4 h5 => exact one _ _ (.fn f f' a b a' b' h1 h2 h3 h4 h5)
  | nilif => exact one _ _ .nilif
  | iface t v v' h => exact one _ _ (.iface t v v' h)
  | tup a a' h1 h2 => exact one _ _ (.tup a a' h1 h2)
end
noncomputable def aggD : TypeDesc → Bool
  | .struct _ => true
  | .array _ _ => true
  | _ => false
theorem isAgg_run {P : Program} {t : TypeId} {d : TypeDesc} (h : P.underlying t = some d) (w : World) : (isAgg t).run P w = .ok (aggD d) w := by
  cases d <;> simp [isAgg, run_underlying h, aggD]
theorem sizeOf_run {P : Program} {t : TypeId} {i : TypeInfo} (h : P.info? t = some i) (w : World) : (sizeOf t).run P w = .ok i.size w := by simp [sizeOf, typeInfo, h]
theorem zeroValue_run {P : Program} {t : TypeId} {i : TypeInfo} {z : Value} (h : P.info? t = some i) (hz : i.zero = some z) (w : World) : (zeroValue t).run P w = .ok z w := by simp [zeroValue, typeInfo, h, hz]
section
variable {E : Env} {base : Bs} {w0 w : World} {γ : Nat → G} {H : AH}
/-! load, store -/
noncomputable def aLoad (E : Env) (t : TypeId) (p : Value) (H : AH) : Option Value :=
  match p with
  | .pointer (some ⟨b, o, none⟩) => match E.und t with
    | some d => match aggD d with
      | true => match E.inf t with
        | some i => match H.read b o i.size with
          | some l => some (.agg ⟨l⟩)
          | none => none
        | none => none
      | false => match H.obj b with
        | .cells B => B.cs[o]?
        | _ => none
    | none => none
  | _ => none
theorem aLoad_run (hE : E.OK) (h : HRel γ base w0 H w) {t : TypeId} {p p' v : Value} (hp : VRel γ H.next p p') (hl : aLoad E t p H = some v) : ∃ v' a, p' = .pointer (some a) ∧ (loadVar t a).run E.P w = .ok v' w ∧ VRel γ H.next v v' := by
  unfold aLoad at hl
  split at hl
  case h_2 => cases hl
  rename_i b o
  obtain ⟨_, hb, rfl⟩ := hp.ptr_inv
  split at hl
  case h_2 => cases hl
  rename_i d hd
  have hd' := hE.und _ _ hd
  split at hl
  · rename_i hag
    split at hl
    case h_2 => cases hl
    rename_i i hi
    have hi' := hE.inf _ _ hi
    split at hl
    case h_2 => cases hl
    rename_i l hrd
    injection hl with hl; subst hl
    obtain ⟨l', h1, h2⟩ := h.loadCells E.P hb hrd
    refine ⟨.agg ⟨l'⟩, _, rfl, ?_, .mkAgg h1⟩
    simp [loadVar, isAgg_run hd', hag, sizeOf_run hi', h2]
  · rename_i hag
    split at hl
    case h_2 => cases hl
    rename_i B hB
    obtain ⟨v', h1, h2⟩ := h.cell hb hB hl
    refine ⟨v', _, rfl, ?_, h2⟩
    simp [loadVar, isAgg_run hd', hag, h1]
theorem aLoad_ok (hE : E.OK) (h : HRel γ base w0 H w) {t : TypeId} {p p' v : Value} (hp : VRel γ H.next p p') (hl : aLoad E t p H = some v) : VOK E.P base w0 γ H w (Instr.loadAt t p') v H := by
  obtain ⟨v', a, rfl, h1, h2⟩ := aLoad_run hE h hp hl
  exact VOK.same h (v' := v') (by simp [Instr.loadAt, Instr.sureAddr, h1]) h2
noncomputable def aStore (E : Env) (t : TypeId) (p v : Value) (H : AH) : Option AH :=
  match p with
  | .pointer (some ⟨b, o, none⟩) => match E.inf t with
    | some i => match Nat.beq v.cells.toList.length i.size with
      | true => H.put b o v.cells.toList
      | false => none
    | none => none
  | _ => none
theorem aStore_ok (hE : E.OK) (h : HRel γ base w0 H w) {t : TypeId} {p p' v v' : Value} {H' : AH} (hp : VRel γ H.next p p') (hv : VRel γ H.next v v') (hl : aStore E t p v H = some H') :
    ∃ w', (Instr.storeAt t p' v').run E.P w = .ok () w' ∧ HRel γ base w0 H' w' ∧ H'.next = H.next := by
  unfold aStore at hl
  split at hl
  case h_2 => cases hl
  rename_i b o
  obtain ⟨_, hb, rfl⟩ := hp.ptr_inv
  split at hl
  case h_2 => cases hl
  rename_i i hi
  split at hl
  case h_2 => cases hl
  rename_i hlen
  have hlen' := Nat.eq_of_beq_eq_true hlen
  have hc := hv.cells
  obtain ⟨w', h1, h2, h3, _⟩ := h.put E.P hb hl hc
  refine ⟨w', ?_, h2, h3⟩
  have hsz : v'.cells.size = i.size := by rw [← Array.length_toList, ← hc.1]; exact hlen'
  simp [Instr.storeAt, Instr.sureAddr, storeVar, sizeOf_run (hE.inf _ _ hi), hsz, h1]
/-! new variables -/
noncomputable def eszOf (E : Env) (t : TypeId) : Nat :=
  match E.und t with
  | some (.array _ e) => match E.inf e with
    | some i => i.size
    | none => 0
  | _ => match E.inf t with
    | some i => i.size
    | none => 0
noncomputable def aBox (E : Env) (t : TypeId) (v : Value) (H : AH) : Option (Value × AH) :=
  some (.pointer (some ⟨H.next, 0, none⟩), H.newRow v.cells.toList t (eszOf E t))
theorem newVar_ok (h : HRel γ base w0 H w) {v v' : Value} (hv : VRel γ H.next v v') (t esz : Nat) (P : Program) : ∃ γ' a' w', Ext γ H.next γ' (H.next + 1) ∧ (newVar t v').run P w = .ok a' w' ∧ VRel γ' (H.next + 1) (.pointer (some ⟨H.next, 0, none⟩)) (.pointer (some a')) ∧ HRel γ' base w0 (H.newRow v.cells.toList t esz) w' := by
  have hc := hv.cells
  have hn := h.newRow hc v'.cells rfl t esz
  refine ⟨_, ⟨w.heap.size, 0, none⟩, _, upd_ext _ _ _, by simp [newVar, newRow], ?_, hn⟩
  have := VRel.ptr (γ := upd γ H.next ⟨w.heap.size, 0, v.cells.toList.length, v.cells.toList.length, esz⟩) (n := H.next + 1) H.next 0 (by omega)
  rw [upd_at] at this
  exact this
theorem aBox_ok (hE : E.OK) (h : HRel γ base w0 H w) {t : TypeId} {v v' r : Value} {H' : AH} (hv : VRel γ H.next v v') (hl : aBox E t v H = some (r, H')) : VOK E.P base w0 γ H w (Instr.box t v') r H' := by
  unfold aBox at hl
  injection hl with hl; injection hl with e1 e2; subst e1 e2
  obtain ⟨γ', a', w', h1, h2, h3, h4⟩ := newVar_ok h hv t (eszOf E t) E.P
  exact ⟨γ', _, w', h1, by simp [Instr.box, h2], h3, h4⟩
noncomputable def zeroOf (E : Env) (t : TypeId) : Option Value :=
  match E.inf t with
  | some i => match i.zero with
    | some z => match plainN 30 z with
      | true => some z
      | false => none
    | none => none
  | none => none
theorem zeroOf_ok (hE : E.OK) {t : TypeId} {z : Value} (hz : zeroOf E t = some z) (γ : Nat → G) (n : Nat) (w : World) : (zeroValue t).run E.P w = .ok z w ∧ VRel γ n z z := by
  unfold zeroOf at hz
  split at hz
  case h_2 => cases hz
  rename_i i hi
  split at hz
  case h_2 => cases hz
  rename_i z' hz'
  split at hz
  case h_2 => cases hz
  rename_i hp
  injection hz with hz; subst hz
  exact ⟨zeroValue_run (hE.inf _ _ hi) hz' w, VRel.plain _ _ hp⟩
noncomputable def aAlloc (E : Env) (t : TypeId) (H : AH) : Option (Value × AH) :=
  match zeroOf E t with
  | some z => aBox E t z H
  | none => none
theorem aAlloc_ok (hE : E.OK) (h : HRel γ base w0 H w) {t : TypeId} {r : Value} {H' : AH} (hl : aAlloc E t H = some (r, H')) : VOK E.P base w0 γ H w (Instr.alloc t true (.tuple #[])) r H' := by
  unfold aAlloc at hl
  split at hl
  case h_2 => cases hl
  rename_i z hz
  obtain ⟨h1, h2⟩ := zeroOf_ok hE hz γ H.next w
  obtain ⟨γ', v', w', k1, k2, k3, k4⟩ := aBox_ok hE h h2 hl
  refine ⟨γ', v', w', k1, ?_, k3, k4⟩
  simp only [Instr.box] at k2
  simp [Instr.alloc, h1] at k2 ⊢
  exact k2
/-! places -/
noncomputable def aField (E : Env) (s : TypeId) (p : Value) (f : Nat) : Option Value :=
  match p with
  | .pointer (some ⟨b, o, none⟩) => match E.und s with
    | some (.struct fs) => match fs.toList[f]? with
      | some fd => match E.inf fd.type with
        | some i => match i.size with
          | 0 => none
          | _ => some (.pointer (some ⟨b, o + fd.offset, none⟩))
        | none => none
      | none => none
    | _ => none
  | _ => none
theorem aField_ok (hE : E.OK) (h : HRel γ base w0 H w) {s : TypeId} {p p' v : Value} {f : Nat} (hp : VRel γ H.next p p') (hl : aField E s p f = some v) : VOK E.P base w0 γ H w (Instr.fieldAt s p' f) v H := by
  unfold aField at hl
  split at hl
  case h_2 => cases hl
  rename_i b o
  obtain ⟨_, hb, rfl⟩ := hp.ptr_inv
  split at hl
  case h_2 => cases hl
  rename_i fs hfs
  split at hl
  case h_2 => cases hl
  rename_i fd hfd
  split at hl
  case h_2 => cases hl
  rename_i i hi
  split at hl
  case h_1 => cases hl
  rename_i k hk
  injection hl with hl; subst hl
  have hfd' : fs[f]? = some fd := by rw [← Array.getElem?_toList]; exact hfd
  have hne : ¬ i.size = 0 := fun q => hk q
  refine VOK.same h (v' := .pointer (some ⟨(γ b).blk, (γ b).off + (o + fd.offset), none⟩)) ?_ (.ptr b (o + fd.offset) hb)
  simp [Instr.fieldAt, Instr.sureAddr, run_underlying (hE.und _ _ hfs), hfd', fieldPlace, sizeOf_run (hE.inf _ _ hi), hne, add_at, Nat.add_assoc]
noncomputable def aIndexAddr (E : Env) (t : TypeId) (x ix : Value) : Option Value :=
  match ix with
  | .int _ (.ofNat j) => match E.und t, x with
    | some (.slice e), .slice (some ⟨b, o, none⟩) l _ => match Nat.ble (j + 1) l, E.inf e with
      | true, some i => some (.pointer (some ⟨b, o + j * i.size, none⟩))
      | _, _ => none
    | some (.array n e), .pointer (some ⟨b, o, none⟩) => match Nat.ble (j + 1) n, E.inf e with
      | true, some i => some (.pointer (some ⟨b, o + j * i.size, none⟩))
      | _, _ => none
    | _, _ => none
  | _ => none
theorem aIndexAddr_ok (hE : E.OK) (h : HRel γ base w0 H w) {t : TypeId} {x x' ix ix' v : Value} (hx : VRel γ H.next x x') (hi : VRel γ H.next ix ix') (hl : aIndexAddr E t x ix = some v) : VOK E.P base w0 γ H w (Instr.indexAt t x' ix') v H := by
  unfold aIndexAddr at hl
  split at hl
  case h_2 => cases hl
  rename_i k j
  rw [hi.int_inv]
  split at hl
  · rename_i e b o l c hu
    obtain ⟨_, hb, _, _, c', rfl, _⟩ := hx.slice_inv
    split at hl
    case h_2 => cases hl
    rename_i i hle hi
    have hlt := Nat.le_of_ble_eq_true hle
    injection hl with hl; subst hl
    refine VOK.same h (v' := .pointer (some ⟨(γ b).blk, (γ b).off + (o + j * i.size), none⟩)) ?_ (.ptr b _ hb)
    have h1 : (0 : Int) ≤ Int.ofNat j := Int.natCast_nonneg j
    have h2 : Int.ofNat j < (l : Int) := by show (j : Int) < l; omega
    simp [Instr.indexAt, asIntOf, run_underlying (hE.und _ _ hu), sizeOf_run (hE.inf _ _ hi), h1, add_at, Nat.add_assoc]
    omega
  · rename_i n e b o hu
    obtain ⟨_, hb, rfl⟩ := hx.ptr_inv
    split at hl
    case h_2 => cases hl
    rename_i i hle hi
    have hlt := Nat.le_of_ble_eq_true hle
    injection hl with hl; subst hl
    refine VOK.same h (v' := .pointer (some ⟨(γ b).blk, (γ b).off + (o + j * i.size), none⟩)) ?_ (.ptr b _ hb)
    have h1 : (0 : Int) ≤ Int.ofNat j := Int.natCast_nonneg j
    have h2 : Int.ofNat j < (n : Int) := by show (j : Int) < n; omega
    simp [Instr.indexAt, Instr.sureAddr, asIntOf, run_underlying (hE.und _ _ hu), sizeOf_run (hE.inf _ _ hi), h1, add_at, Nat.add_assoc]
    omega
  · cases hl
end
end Go.Proofs.YtohgenhjdgdkgaaGreatDoor.Sh
