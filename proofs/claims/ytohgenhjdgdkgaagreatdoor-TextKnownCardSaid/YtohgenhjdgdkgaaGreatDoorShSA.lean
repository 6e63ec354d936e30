import Derived.Test.YtohgenhjdgdkgaaGreatDoorShS9
import Derived.Lib.Builder
import Derived.Lib.UnsafeStr
namespace Go.Proofs.YtohgenhjdgdkgaaGreatDoor.Sh
open Go.RowKit
set_option linter.unusedVariables false
set_option linter.unusedSimpArgs false

section
variable {E : Env} {base : Bs} {w0 w : World} {γ : Nat → G} {H : AH}
noncomputable def aUn (op : UnOp) (x : Value) : Option Value :=
  match op, x with
  | .neg, .int k n => some (.int k (wrapF k (0 - n)))
  | .xor, .int k n => aInt .xor k (match k.signed with | true => -1 | false => k.max) n
  | .not, .bool true => some (.bool false)
  | .not, .bool false => some (.bool true)
  | _, _ => none
theorem aUn_ok {P : Program} (h : HRel γ base w0 H w) {op : UnOp} {x x' v : Value} (hx : VRel γ H.next x x') (hl : aUn op x = some v) : VOK P base w0 γ H w (Op.unary op x') v H := by
  unfold aUn at hl
  split at hl
  · rename_i k n
    injection hl with hl; subst hl
    rw [hx.int_inv]
    exact VOK.same h (v' := .int k (wrapF k (0 - n))) (by simp [Op.unary, Op.intArith, wrapF_eq]) (.int _ _)
  · rename_i k n
    rw [hx.int_inv]
    have : (match k.signed with | true => (-1 : Int) | false => k.max) = if k.signed then -1 else k.max := by cases k.signed <;> rfl
    rw [this] at hl
    unfold aInt at hl
    simp only at hl
    injection hl with hl; subst hl
    exact VOK.same h (v' := .int k _) (by simp [Op.unary, Op.intBits, wrapF_eq]) (.int _ _)
  · injection hl with hl; subst hl
    rw [hx.bool_inv]
    exact VOK.same h (v' := .bool false) (by simp [Op.unary]) (.bool _)
  · injection hl with hl; subst hl
    rw [hx.bool_inv]
    exact VOK.same h (v' := .bool true) (by simp [Op.unary]) (.bool _)
  · cases hl
noncomputable def Obj.isCells' : Obj → Bool
  | .cells _ _ _ => true
  | _ => false
theorem getObj_run {P : Program} {r : Nat} {o : Obj} (h : w.heap[r]? = some o) (ho : Obj.isCells' o = false) : (getObj r).run P w = .ok o w := by
  unfold getObj
  rw [Sem.run]
  rw [h]
  cases o <;> first | rfl | cases ho
noncomputable def aLen (E : Env) (t : TypeId) (x : Value) (H : AH) : Option Value :=
  match E.und t, x with
  | some .string, .string s => some (.int .i64 (.ofNat s.data.toList.length))
  | some (.array n _), _ => some (.int .i64 (.ofNat n))
  | some (.slice _), .slice _ n _ => some (.int .i64 (.ofNat n))
  | some (.map _ _), .map none => some (.int .i64 (.ofNat 0))
  | some (.map _ _), .map (some b) => match H.obj b with
    | .map es _ => some (.int .i64 (.ofNat es.length))
    | _ => none
  | _, _ => none
theorem VRel.slice_len {n : Nat} {a : Option Addr} {l c : Nat} {v' : Value} (h : VRel γ n (.slice a l c) v') : ∃ a' c', v' = .slice a' l c' := by
  cases h
  · exact ⟨_, _, rfl⟩
  · exact ⟨_, _, rfl⟩
theorem aLen_ok (hE : E.OK) (h : HRel γ base w0 H w) {t ty : TypeId} {ts : Array TypeId} {x x' v : Value} (ht : ts[0]? = some t) (hx : VRel γ H.next x x') (hl : aLen E t x H = some v) : VOK E.P base w0 γ H w (Builtin.len_ ts ty #[x']) v H := by
  unfold aLen at hl
  have fin : ∀ n : Nat, v = .int .i64 (.ofNat n) → (Builtin.len_ ts ty #[x']).run E.P w = .ok (.int .i64 (.ofNat n)) w → VOK E.P base w0 γ H w (Builtin.len_ ts ty #[x']) v H := fun n e hr => by
    subst e
    exact VOK.same h hr (.int _ _)
  split at hl
  · rename_i s hu
    injection hl with hl
    refine fin _ hl.symm ?_
    rw [hx.string_inv]
    have e1 : s.data.toList.length = s.size := Array.length_toList
    rw [e1]
    simp [Builtin.len_, ht, run_underlying (hE.und _ _ hu), goInt]
  · rename_i n e hu
    injection hl with hl
    refine fin _ hl.symm ?_
    cases x' <;> simp [Builtin.len_, ht, run_underlying (hE.und _ _ hu), goInt]
  · rename_i e a n c hu
    injection hl with hl
    refine fin _ hl.symm ?_
    obtain ⟨a', c', e1⟩ := hx.slice_len
    rw [e1]
    simp [Builtin.len_, ht, run_underlying (hE.und _ _ hu), goInt]
  · rename_i k e hu
    injection hl with hl
    refine fin _ hl.symm ?_
    cases hx
    simp [Builtin.len_, ht, run_underlying (hE.und _ _ hu), goInt]
  · rename_i k e b hu
    split at hl
    case h_2 => cases hl
    rename_i es c hob
    injection hl with hl
    refine fin _ hl.symm ?_
    cases hx with
    | map _ hb =>
      have hr := h.rel b hb
      rw [hob] at hr
      obtain ⟨es', h1, h2⟩ := hr
      have e2 : es'.size = es.length := by rw [← Array.length_toList, h2.1]
      have hg : (getObj (γ b).blk).run E.P w = .ok (.map es' c) w := getObj_run h1 rfl
      simp [Builtin.len_, ht, run_underlying (hE.und _ _ hu), goInt, hg, e2]
  · cases hl
/-! conversions -/
noncomputable def isU8 : Option TypeDesc → Bool
  | some (.int .u8) => true
  | _ => false
theorem isU8_eq {o : Option TypeDesc} (h : isU8 o = true) : o = some (.int .u8) := by
  unfold isU8 at h
  split at h
  · rfl
  · cases h
noncomputable def bytesOf : List Value → Option (List UInt8)
  | [] => some []
  | .int .u8 (.ofNat n) :: l => match bytesOf l with
    | some r => some (UInt8.ofNat n :: r)
    | none => none
  | _ :: _ => none
noncomputable def bytesB (H : AH) (x : Nat) : Bool := match H.obj x with
  | .cells X => Nat.beq X.esz 1
  | _ => true
/-- A slice of bytes as another slice of bytes of one type. -/
noncomputable def aConvSl (E : Env) (src dst e : TypeId) (x : Value) (b : Nat) (H : AH) : Option (Value × AH) :=
  match Nat.beq src dst, isU8 (E.und e), H.obj b with
  | true, true, .cells B => match B.ro || !((H.mem B.fam).all (bytesB H)) with
    | false => some (x, H)
    | true => none
  | _, _, _ => none
/-- A pointer as unsafe.Pointer; and back, where the block is what it points to. -/
noncomputable def aToUns (E : Env) (t : TypeId) (b o : Nat) (H : AH) : Bool :=
  match E.inf t, H.obj b with
  | some i, .cells B => Nat.blt o B.cs.length && !(Nat.beq i.size 0)
  | _, _ => false
noncomputable def aOfUns (E : Env) (u : TypeId) (b o : Nat) (H : AH) : Bool :=
  match E.inf u, H.obj b with
  | some i, .cells B => Nat.beq B.abs 0 && B.ex && liesAt E.P E.P.depth B.ty (B.cs.length / E.P.cellsOf B.ty) o u 1 && !B.ro
  | _, _ => false
noncomputable def aConv (E : Env) (src dst : TypeId) (x : Value) (H : AH) : Option (Value × AH) :=
  match x with
  | .int _ n => match E.und src, E.und dst with
    | some _, some (.int k) => some (.int k (wrapF k n), H)
    | _, _ => none
  | .string s => match E.und src, E.und dst with
    | some .string, some .string => some (.string s, H)
    | some .string, some (.slice e) => match isU8 (E.und e), E.inf e with
      | true, some i => match Nat.beq i.size 1 && Nat.ble s.data.toList.length 1152921504606846976 with
        | true => some (.slice (some ⟨H.next, 0, none⟩) s.data.toList.length s.data.toList.length, H.newRowF (s.data.toList.map fun b => .int .u8 (.ofNat b.toNat)) e 1 H.next 0 (H.next :: H.mem H.next) false)
        | false => none
      | _, _ => none
    | _, _ => none
  | .slice none 0 0 => match E.und src, E.und dst with
    | some (.slice e), some .string => match isU8 (E.und e) with
      | true => some (.string ⟨⟨[]⟩⟩, H)
      | false => none
    | _, _ => none
  | .slice (some ⟨b, o, none⟩) l _ => match E.und src, E.und dst with
    | some (.slice e), some .string => match isU8 (E.und e), H.read b o l with
      | true, some vs => match bytesOf vs with
        | some bs => some (.string ⟨⟨bs⟩⟩, H)
        | none => none
      | _, _ => none
    | some (.slice _), some (.slice e) => aConvSl E src dst e x b H
    | _, _ => none
  | .pointer none => match E.und src, E.und dst with
    | some (.pointer _), some .unsafePointer => some (.pointer none, H)
    | some .unsafePointer, some (.pointer _) => some (.pointer none, H)
    | _, _ => none
  | .pointer (some ⟨b, o, none⟩) => match E.und src, E.und dst with
    | some (.pointer t), some .unsafePointer => match aToUns E t b o H with
      | true => some (x, H)
      | false => none
    | some .unsafePointer, some (.pointer u) => match aOfUns E u b o H with
      | true => some (x, H)
      | false => none
    | _, _ => none
  | _ => none
theorem bytesOf_rel {n : Nat} : ∀ (vs vs' : List Value) (bs : List UInt8), LRel γ n vs vs' → bytesOf vs = some bs → ∃ ns : List Int, vs' = ns.map (Value.int .u8) ∧ ∀ r : ByteArray, ns.foldl (fun r n => r.push (UInt8.ofNat n.toNat)) r = ⟨⟨r.data.toList ++ bs⟩⟩ := by
  intro vs
  induction vs with
  | nil =>
    intro vs' bs h hb
    injection hb with hb; subst hb
    rw [h.inv_nil]
    exact ⟨[], rfl, fun r => by simp⟩
  | cons v vs ih =>
    intro vs' bs h hb
    obtain ⟨x', a', rfl, h1, h2⟩ := h.inv_cons
    unfold bytesOf at hb
    split at hb
    · rename_i e; cases e
    · rename_i n l e
      injection e with e1 e2
      subst e1 e2
      split at hb
      case h_2 => cases hb
      rename_i r hr
      injection hb with hb; subst hb
      rw [h1.int_inv]
      obtain ⟨ns, e3, e4⟩ := ih _ _ h2 hr
      refine ⟨(n : Int) :: ns, by rw [e3]; rfl, fun q => ?_⟩
      rw [List.foldl_cons, e4]
      simp [ByteArray.push]
    · cases hb
theorem aConv_ok (hE : E.OK) (h : HRel γ base w0 H w) {src dst : TypeId} {x x' v : Value} {H' : AH} (hx : VRel γ H.next x x') (hl : aConv E src dst x H = some (v, H')) : VOK E.P base w0 γ H w (convert src dst x') v H' := by
  unfold aConv at hl
  split at hl
  · rename_i k0 n
    split at hl
    case h_2 => cases hl
    rename_i d k hs hd
    injection hl with hl; injection hl with e1 e2; subst e1 e2
    rw [hx.int_inv]
    refine VOK.same h (v' := .int k (wrapF k n)) ?_ (.int _ _)
    simp [convert, run_underlying (hE.und _ _ hs), run_underlying (hE.und _ _ hd), Conv.intToInt, wrapF_eq]
  · rename_i s
    rw [hx.string_inv]
    split at hl
    · rename_i hs hd
      injection hl with hl; injection hl with e1 e2; subst e1 e2
      refine VOK.same h (v' := .string s) ?_ (.string _)
      simp [convert, run_underlying (hE.und _ _ hs), run_underlying (hE.und _ _ hd)]
    · rename_i e hs hd
      split at hl
      case h_2 => cases hl
      rename_i i hu8 hi
      split at hl
      case h_2 => cases hl
      rename_i hsz
      rw [Bool.and_eq_true] at hsz
      have hsl := Nat.le_of_ble_eq_true hsz.2
      have hsz' := Nat.eq_of_beq_eq_true hsz.1
      injection hl with hl; injection hl with e1 e2; subst e1 e2
      have he := hE.und _ _ (isU8_eq hu8)
      have hrun := run_bytes_of_string w src dst e s (hE.und _ _ hs) (hE.und _ _ hd) he
      have hlen : s.data.toList.length = s.size := Array.length_toList
      have hge := grownCap_ge w s.size 0 e
      have hrow : (bytesRow s (grownCap w s.size 0 e)).toList = (s.data.toList.map fun b => Value.int .u8 (Int.ofNat b.toNat)) ++ List.replicate (grownCap w s.size 0 e - s.size) (.int .u8 0) := by
        unfold bytesRow
        simp
      have hrsz : (bytesRow s (grownCap w s.size 0 e)).size = grownCap w s.size 0 e := by
        rw [← Array.length_toList, hrow]; simp; omega
      have hself : LRel γ H.next (s.data.toList.map fun b => Value.int .u8 (Int.ofNat b.toNat)) (s.data.toList.map fun b => Value.int .u8 (Int.ofNat b.toNat)) := by
        refine ⟨rfl, fun i x y h1 h2 => ?_⟩
        rw [h1] at h2; injection h2 with h2; subst h2
        rw [List.getElem?_map] at h1
        cases hb : s.data.toList[i]? with
        | none => rw [hb] at h1; cases h1
        | some b => rw [hb] at h1; injection h1 with h1; subst h1; exact .int _ _
      let g : G := ⟨w.heap.size, 0, s.data.toList.length, grownCap w s.size 0 e, 1⟩
      refine ⟨upd γ H.next g, _, _, upd_ext _ _ g, hrun, ?_, ?_⟩
      · have := VRel.slice (γ := upd γ H.next g) (n := H.next + 1) H.next 0 s.data.toList.length s.data.toList.length (grownCap w s.size 0 e) (by omega) (Nat.le_refl _) (by rw [upd_at]; simp [g]) (.inr ⟨by rw [upd_at]; simp [g], by omega, by rw [upd_at]; simp [g]⟩)
        rw [upd_at] at this
        rw [hlen] at this ⊢
        exact this
      · refine (h.drew).alloc _ _ g rfl _ _ (by simp) ?_ (by intro B hB; injection hB with hB; subst hB; rfl)
        refine ⟨bytesRow s (grownCap w s.size 0 e), e, ((bytesRow s (grownCap w s.size 0 e)).size, (bytesRow s (grownCap w s.size 0 e)).size + 1), ?_, fun _ => ⟨rfl, ?_⟩, ?_⟩
        · show (w.heap.push _)[(upd γ H.next g H.next).blk]? = _
          rw [upd_at]; simp [g]
        · exact .inr ⟨Nat.le_refl _, rfl⟩
        · refine ⟨by rw [upd_at, hrsz]; simp [g], by rw [upd_at]; simp [g], by rw [upd_at]; simp [g]; omega, by rw [upd_at], (fun q => by cases q), fun j v hj => ?_, fun _ => by rw [upd_at], fun _ => by rw [upd_at]; have := grownCap_le_maxLen w s.size 0 e (by unfold maxLen; omega); unfold maxLen at this; simp only [g]; omega⟩
          rw [upd_at]
          obtain ⟨y, hy, hr⟩ := hself.get hj
          refine ⟨y, ?_, hr.ext (upd_ext _ _ _)⟩
          show (bytesRow s (grownCap w s.size 0 e))[0 + j]? = _
          rw [Nat.zero_add, ← Array.getElem?_toList, hrow, List.getElem?_append_left (List.getElem?_eq_some_iff.1 hy).1]
          exact hy
    · cases hl
  · split at hl
    case h_2 => cases hl
    rename_i e hs hd
    split at hl
    case h_2 => cases hl
    rename_i hu8
    injection hl with hl; injection hl with e1 e2; subst e1 e2
    rw [hx.nilslice_inv.2.2]
    refine VOK.same h (v' := .string ⟨⟨[]⟩⟩) ?_ (.string _)
    rw [run_convert_bytes_string w src dst e _ _ _ (hE.und _ _ hs) (hE.und _ _ (isU8_eq hu8)) (hE.und _ _ hd)]
    simp [Conv.bytesToString]
    rfl
  · rename_i b o l c
    split at hl
    case h_3 => cases hl
    case h_2 =>
      rename_i e0 e hs hd
      unfold aConvSl at hl
      split at hl
      case h_2 => cases hl
      rename_i B hsd hu8 hob
      split at hl
      case h_2 => cases hl
      rename_i hro
      rw [Bool.or_eq_false_iff] at hro
      obtain ⟨hro, hall⟩ := hro
      rw [Bool.not_eq_false'] at hall
      injection hl with hl; injection hl with e1 e2; subst e1 e2
      have hsd' := Nat.eq_of_beq_eq_true hsd
      subst hsd'
      obtain rfl : e0 = e := by rw [hs] at hd; injection hd with hd; injection hd
      have hx' := hx
      obtain ⟨_, hb, _, _, c', hxe, _⟩ := hx.slice_inv
      subst hxe
      have hrel := h.rel b hb
      rw [hob] at hrel
      obtain ⟨C, ty0, fz, k1, k2f, k3⟩ := hrel
      obtain ⟨rfl, k2⟩ := k2f hro
      have hsh : w.shape? (γ b).blk = some (B.ty, C.size) := by simp [World.shape?, k1]
      have hrun : (convert src src (.slice (some ⟨(γ b).blk, (γ b).off + o, none⟩) l c')).run E.P w = .ok (.slice (some ⟨(γ b).blk, (γ b).off + o, none⟩) l c') (w.freeze ⟨(γ b).blk, C.size, none⟩ 1) := by
        simp [convert, run_underlying (hE.und _ _ hs), run_underlying (hE.und _ _ (isU8_eq hu8)), markStringish, hsh]
      have hw' : (w.freeze ⟨(γ b).blk, C.size, none⟩ 1).heap[(γ b).blk]? = some (.cells C B.ty (if fz.1 == fz.2 then (C.size, C.size + 1) else (min fz.1 C.size, max fz.2 (C.size + 1)))) := by
        simp [World.freeze, Array.getElem?_modify, k1]
      have hsb : SameBut (γ b).blk w (w.freeze ⟨(γ b).blk, C.size, none⟩ 1) := by
        refine ⟨rfl, rfl, rfl, by simp [World.freeze], fun k hk => ?_⟩
        simp only [World.freeze]
        rw [if_neg (by omega)]
        simp only [Array.getElem?_modify, if_neg (Ne.symm hk)]
      have hfz : ∀ x X, x < H.next → H.obj x = .cells X → (γ x).blk = (γ b).blk → FzOK C.size X.esz fz → FzOK C.size X.esz (if fz.1 == fz.2 then (C.size, C.size + 1) else (min fz.1 C.size, max fz.2 (C.size + 1))) := by
        intro x X hxn hX hbx q
        have hmem : x ∈ H.mem B.fam := by
          by_cases e : x = b
          · rw [e]; exact h.inl b B hb hob
          · obtain ⟨A, B2, hA, hB2, hf, _⟩ := h.apart x b hxn hb e (by rw [hX]; exact fun q => by cases q) (by rw [hob]; exact fun q => by cases q) hbx
            rw [hob] at hB2; injection hB2 with hB2; subst hB2
            rw [← hf]; exact h.inl x A hxn hA
        have h1 : X.esz = 1 := by
          have := List.all_eq_true.1 hall x hmem
          unfold bytesB at this
          rw [hX] at this
          exact Nat.eq_of_beq_eq_true this
        by_cases q2 : fz.1 = fz.2
        · rw [if_pos (by simpa using q2)]; exact .inr ⟨Nat.le_refl _, h1⟩
        · rw [if_neg (by simpa using q2)]
          rcases q with q | ⟨q, _⟩
          · exact absurd q q2
          · right; exact ⟨by show C.size ≤ min fz.1 C.size; omega, h1⟩
      have hW := h.write2 (C := C) (C' := C) k1 (h.own b hb (by rw [hob]; exact fun q => by cases q) (by rw [hob]; exact hro)) hsb hw' rfl [] (H.mem B.fam) (fun x X hx hX hb _ q => hfz x X hx hX hb q) B.fam (fun x _ _ _ => .inr fun _ _ => rfl) (fun x hx _ => hx)
      refine ⟨γ, _, _, Ext.refl _ _, hrun, hx', hW.congr rfl rfl (fun x => ?_) (fun f => ?_)⟩
      · rw [AH.kill_obj, if_neg (by simp)]
      · rw [AH.kill_mem]; split
        · rename_i q; rw [q]
        · rfl
    rename_i e hs hd
    split at hl
    case h_2 => cases hl
    rename_i vs hu8 hrd
    split at hl
    case h_2 => cases hl
    rename_i bs hbs
    injection hl with hl; injection hl with e1 e2; subst e1 e2
    obtain ⟨_, hb, _, _, c', rfl, _⟩ := hx.slice_inv
    obtain ⟨vs', h1, h2⟩ := h.loadCells E.P hb hrd
    obtain ⟨ns, e3, e4⟩ := bytesOf_rel vs vs' bs h1 hbs
    refine VOK.same h (v' := .string ⟨⟨bs⟩⟩) ?_ (.string _)
    rw [run_convert_bytes_string w src dst e _ _ _ (hE.und _ _ hs) (hE.und _ _ (isU8_eq hu8)) (hE.und _ _ hd), run_bytesToString w _ l c' ns (by rw [h2, e3]), e4]
    congr 2
  · split at hl
    · rename_i t hs hd
      injection hl with hl; injection hl with e1 e2; subst e1 e2
      rw [hx.nilptr_inv]
      refine VOK.same h (v' := .pointer none) ?_ .nilptr
      simp [convert, run_underlying (hE.und _ _ hs), run_underlying (hE.und _ _ hd), Conv.unsafePointer]
    · rename_i t hs hd
      injection hl with hl; injection hl with e1 e2; subst e1 e2
      rw [hx.nilptr_inv]
      refine VOK.same h (v' := .pointer none) ?_ .nilptr
      simp [convert, run_underlying (hE.und _ _ hs), run_underlying (hE.und _ _ hd), Conv.unsafePointer]
    · cases hl
  · rename_i b o
    split at hl
    · rename_i t hs hd
      split at hl
      case h_2 => cases hl
      rename_i hq
      injection hl with hl; injection hl with e1 e2; subst e1 e2
      have hx' := hx
      obtain ⟨_, hb, rfl⟩ := hx.ptr_inv
      unfold aToUns at hq
      split at hq
      case h_2 => cases hq
      rename_i i B hi hob
      rw [Bool.and_eq_true] at hq
      have hlt : o < B.cs.length := by have := hq.1; rw [blt_eq] at this; exact of_decide_eq_true this
      have hsz : i.size ≠ 0 := by
        intro q
        have := hq.2
        rw [q] at this; cases this
      have hrel := h.rel b hb
      rw [hob] at hrel
      obtain ⟨C, ty0, fz, k1, k2, k3⟩ := hrel
      have hsh : w.shape? (γ b).blk = some (ty0, C.size) := by simp [World.shape?, k1]
      have h1 := k3.top
      have h2 := k3.len
      have h3 := k3.le
      exact VOK.same h (Lib.run_to_unsafe w ⟨(γ b).blk, (γ b).off + o, none⟩ (hE.und _ _ hs) (hE.und _ _ hd) (hE.inf _ _ hi) hsz hsh (by show (γ b).off + o < C.size; omega)) hx'
    · rename_i u hs hd
      split at hl
      case h_2 => cases hl
      rename_i hq
      injection hl with hl; injection hl with e1 e2; subst e1 e2
      have hx' := hx
      obtain ⟨_, hb, rfl⟩ := hx.ptr_inv
      unfold aOfUns at hq
      split at hq
      case h_2 => cases hq
      rename_i i B hi hob
      rw [Bool.and_eq_true, Bool.and_eq_true, Bool.and_eq_true] at hq
      obtain ⟨hq, hro⟩ := hq
      have hro : B.ro = false := by simpa using hro
      have habs := Nat.eq_of_beq_eq_true hq.1.1
      have hrel := h.rel b hb
      rw [hob] at hrel
      obtain ⟨C, ty0, fz, k1, k2f, k3⟩ := hrel
      obtain ⟨rfl, k2⟩ := k2f hro
      have hsh : w.shape? (γ b).blk = some (B.ty, C.size) := by simp [World.shape?, k1]
      have h0 := k3.abs habs
      have hcs : C.size = B.cs.length := by have h1 := k3.top; have h2 := k3.len; have h4 := k3.ex hq.1.2; omega
      exact VOK.same h (Lib.run_from_unsafe w ⟨(γ b).blk, (γ b).off + o, none⟩ (hE.und _ _ hs) (hE.und _ _ hd) (hE.inf _ _ hi) hsh (by rw [hcs]; show liesAt E.P E.P.depth B.ty (B.cs.length / E.P.cellsOf B.ty) ((γ b).off + o) u 1 = true; rw [h0, Nat.zero_add]; exact hq.2)) hx'
    · cases hl
  · cases hl
/-! interfaces, functions -/
noncomputable def isIface : TypeDesc → Bool
  | .interface _ => true
  | _ => false
noncomputable def aMkIface (E : Env) (t : TypeId) (x : Value) : Option Value :=
  match E.und t with
  | some d => match isIface d with
    | false => some (.iface t x)
    | true => none
  | none => none
theorem aMkIface_ok (hE : E.OK) (h : HRel γ base w0 H w) {t : TypeId} {x x' v : Value} (hx : VRel γ H.next x x') (hl : aMkIface E t x = some v) : VOK E.P base w0 γ H w (Instr.makeInterface t x') v H := by
  unfold aMkIface at hl
  split at hl
  case h_2 => cases hl
  rename_i d hd
  split at hl
  case h_2 => cases hl
  rename_i hi
  injection hl with hl; subst hl
  refine VOK.same h (v' := .iface t x') ?_ (.iface _ _ _ hx)
  cases d <;> first | (cases hi; done) | simp [Instr.makeInterface, run_underlying (hE.und _ _ hd)]
noncomputable def aAssert (E : Env) (x : Value) (asserted : TypeId) (ok : Bool) : Option Value :=
  match E.und asserted with
  | some d => match isIface d with
    | true => none
    | false => match x with
      | .iface t v => match Nat.beq t asserted with
        | true => match ok with
          | true => some (.tuple ⟨[v, .bool true]⟩)
          | false => some v
        | false => match ok, zeroOf E asserted with
          | true, some z => some (.tuple ⟨[z, .bool false]⟩)
          | _, _ => none
      | .nilIface => match ok, zeroOf E asserted with
        | true, some z => some (.tuple ⟨[z, .bool false]⟩)
        | _, _ => none
      | _ => none
  | none => none
theorem assert_hit {P : Program} {xt t : TypeId} {d : TypeDesc} {ok : Bool} {u : Value} (hd : P.underlying t = some d) (hi : isIface d = false) : (Instr.typeAssert (.iface t u) xt t ok).run P w = .ok (if ok then .tuple #[u, .bool true] else u) w := by
  unfold Instr.typeAssert
  simp only [Sem.run_bind, run_underlying hd, Result.andThen_ok]
  cases d <;> first | (cases hi; done) | (simp only [if_true]; rfl)
theorem assert_miss {P : Program} {xt t s : TypeId} {d : TypeDesc} {u z : Value} (hd : P.underlying t = some d) (hi : isIface d = false) (hne : ¬ s = t) (hz : (zeroValue t).run P w = .ok z w) : (Instr.typeAssert (.iface s u) xt t true).run P w = .ok (.tuple #[z, .bool false]) w := by
  unfold Instr.typeAssert
  simp only [Sem.run_bind, run_underlying hd, Result.andThen_ok]
  cases d <;> first | (cases hi; done) | (simp only [if_neg hne, if_true, Sem.run_bind, hz, Result.andThen_ok, Sem.run_pure])
theorem assert_nil {P : Program} {xt t : TypeId} {d : TypeDesc} {z : Value} (hd : P.underlying t = some d) (hi : isIface d = false) (hz : (zeroValue t).run P w = .ok z w) : (Instr.typeAssert .nilIface xt t true).run P w = .ok (.tuple #[z, .bool false]) w := by
  unfold Instr.typeAssert
  simp only [Sem.run_bind, run_underlying hd, Result.andThen_ok]
  cases d <;> first | (cases hi; done) | (simp only [if_true, Sem.run_bind, hz, Result.andThen_ok, Sem.run_pure])
theorem aAssert_ok (hE : E.OK) (h : HRel γ base w0 H w) {xt asserted : TypeId} {ok : Bool} {x x' v : Value} (hx : VRel γ H.next x x') (hl : aAssert E x asserted ok = some v) : VOK E.P base w0 γ H w (Instr.typeAssert x' xt asserted ok) v H := by
  unfold aAssert at hl
  split at hl
  case h_2 => cases hl
  rename_i d hd
  have hd' := hE.und _ _ hd
  split at hl
  case h_1 => cases hl
  rename_i hi
  split at hl
  · rename_i t u
    obtain ⟨u', rfl, hu⟩ := hx.iface_inv
    split at hl
    · rename_i he
      have he' := Nat.eq_of_beq_eq_true he
      subst he'
      have hr := assert_hit (w := w) (xt := xt) (ok := ok) (u := u') hd' hi
      cases ok with
      | true =>
        simp only at hl
        injection hl with hl; subst hl
        exact VOK.same h hr (.mkTup (.cons hu (.cons (.bool _) .nil)))
      | false =>
        simp only at hl
        injection hl with hl; subst hl
        exact VOK.same h hr hu
    · rename_i hne
      have hne' : ¬ t = asserted := Nat.ne_of_beq_eq_false hne
      split at hl
      case h_2 => cases hl
      rename_i z hz
      injection hl with hl; subst hl
      obtain ⟨hz1, hz2⟩ := zeroOf_ok hE hz γ H.next w
      exact VOK.same h (assert_miss hd' hi hne' hz1) (.mkTup (.cons hz2 (.cons (.bool _) .nil)))
  · split at hl
    case h_2 => cases hl
    rename_i z hz
    injection hl with hl; subst hl
    obtain ⟨hz1, hz2⟩ := zeroOf_ok hE hz γ H.next w
    rw [hx.nilif_inv]
    exact VOK.same h (assert_nil hd' hi hz1) (.mkTup (.cons hz2 (.cons (.bool _) .nil)))
  · cases hl
/-! make -/
noncomputable def aMakeSlice (E : Env) (t : TypeId) (l c : Value) (H : AH) : Option (Value × AH) :=
  match l, c with
  | .int _ (.ofNat l), .int _ (.ofNat c) => match E.und t with
    | some (.slice e) => match E.inf e, zeroOf E e with
      | some i, some z => match Nat.ble l c && Nat.ble (i.bytes * c) 281474976710656 && Nat.ble c 1048576 && Nat.beq z.cells.toList.length i.size with
        | true => some (.slice (some ⟨H.next, 0, none⟩) l c, H.newRow (zerosL z.cells.toList c) e i.size)
        | false => none
      | _, _ => none
    | _ => none
  | _, _ => none
theorem zeroOf_inf {t : TypeId} {z : Value} {i : TypeInfo} (hz : zeroOf E t = some z) (hi : E.inf t = some i) : i.zero = some z := by
  unfold zeroOf at hz
  rw [hi] at hz
  simp only at hz
  split at hz
  case h_2 => cases hz
  rename_i z' hz'
  split at hz
  case h_2 => cases hz
  injection hz with hz; subst hz
  exact hz'
theorem aMakeSlice_ok (hE : E.OK) (h : HRel γ base w0 H w) {t : TypeId} {l c l' c' v : Value} {H' : AH} (h1 : VRel γ H.next l l') (h2 : VRel γ H.next c c') (hl : aMakeSlice E t l c H = some (v, H')) : VOK E.P base w0 γ H w (Instr.makeSlice t l' c') v H' := by
  unfold aMakeSlice at hl
  split at hl
  case h_2 => cases hl
  rename_i kl l kc c
  rw [h1.int_inv, h2.int_inv]
  split at hl
  case h_2 => cases hl
  rename_i e hu
  split at hl
  case h_2 => cases hl
  rename_i i z hi hz
  split at hl
  case h_2 => cases hl
  rename_i hb
  rw [Bool.and_eq_true, Bool.and_eq_true, Bool.and_eq_true] at hb
  have b1 := Nat.le_of_ble_eq_true hb.1.1.1
  have b2 := Nat.le_of_ble_eq_true hb.1.1.2
  have b3 := Nat.le_of_ble_eq_true hb.1.2
  have b4 := Nat.eq_of_beq_eq_true hb.2
  injection hl with hl; injection hl with e1 e2; subst e1 e2
  obtain ⟨hz1, hz2⟩ := zeroOf_ok hE hz γ H.next w
  have hrun := run_make (P := E.P) w t e i z (hE.und _ _ hu) (hE.inf _ _ hi) (zeroOf_inf hz hi) kl kc (l : Int) (c : Int) (by omega) (by omega) (by have : ((i.bytes * c : Nat) : Int) ≤ 281474976710656 := by omega
                                                                                                                                                    rwa [Int.natCast_mul] at this) (by omega)
  have hmade : (madeCells z.cells (c * i.size)).toList = zerosL z.cells.toList c := by
    have := zerosL_eq z.cells.toList c
    rw [← b4]
    unfold madeCells
    simp only [← Array.length_toList]
    exact this
  have hn := h.newRow (zerosL_rel hz2.cells c) (madeCells z.cells (c * i.size)) hmade e i.size
  have hlen : (zerosL z.cells.toList c).length = c * i.size := by rw [zerosL_len, b4]
  refine ⟨_, .slice (some ⟨w.heap.size, 0, none⟩) l c, _, upd_ext _ _ _, by simpa using hrun, ?_, hn⟩
  have := VRel.slice (γ := upd γ H.next ⟨w.heap.size, 0, (zerosL z.cells.toList c).length, (zerosL z.cells.toList c).length, i.size⟩) (n := H.next + 1) H.next 0 l c c (by omega) b1 (by rw [upd_at]; simp [hlen]) (.inl rfl)
  rw [upd_at] at this
  exact this
end
end Go.Proofs.YtohgenhjdgdkgaaGreatDoor.Sh
