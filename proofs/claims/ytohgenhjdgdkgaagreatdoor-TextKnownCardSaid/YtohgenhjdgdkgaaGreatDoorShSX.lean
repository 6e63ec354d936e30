import Derived.Test.YtohgenhjdgdkgaaGreatDoorShSC
import Derived.Lib.Bytealg
namespace Go.Proofs.YtohgenhjdgdkgaaGreatDoor.Sh
open Go.RowKit
set_option linter.unusedVariables false
set_option linter.unusedSimpArgs false

/-! ### clear -/
noncomputable def aClear (E : Env) (t : TypeId) (s : Value) (H : AH) : Option (Value × AH) :=
  match s with
  | .slice none 0 0 => match E.und t with
    | some (.slice _) => some (.tuple ⟨[]⟩, H)
    | _ => none
  | .slice (some ⟨b, o, none⟩) l _ => match E.und t with
    | some (.slice e) => match l with
      | 0 => some (.tuple ⟨[]⟩, H)
      | l + 1 => match zeroOf E e with
        | some z => match H.put b o (zerosL z.cells.toList (l + 1)) with
          | some H' => some (.tuple ⟨[]⟩, H')
          | none => none
        | none => none
    | _ => none
  | _ => none
section
variable {E : Env} {base : Bs} {w0 w : World} {γ : Nat → G} {H : AH}
theorem aClear_ok (hE : E.OK) (h : HRel γ base w0 H w) {t ty : TypeId} {ts : Array TypeId} (ht : ts[0]? = some t) {s s' v : Value} {H' : AH} (hs : VRel γ H.next s s') (hl : aClear E t s H = some (v, H')) : VOK E.P base w0 γ H w (Builtin.clear_ ts ty #[s']) v H' := by
  unfold aClear at hl
  split at hl
  · split at hl
    case h_2 => cases hl
    rename_i e hu
    injection hl with hl; injection hl with e1 e2; subst e1 e2
    rw [hs.nilslice_inv.2.2]
    refine VOK.same h (v' := .tuple #[]) ?_ (.tup _ _ rfl (fun i x y hx => by simp at hx))
    simp [Builtin.clear_, ht, run_underlying (hE.und _ _ hu)]
  · rename_i b o l c
    split at hl
    case h_2 => cases hl
    rename_i e hu
    obtain ⟨_, hb, _, _, c', rfl, _⟩ := hs.slice_inv
    cases l with
    | zero =>
      simp only at hl
      injection hl with hl; injection hl with e1 e2; subst e1 e2
      refine VOK.same h (v' := .tuple #[]) ?_ (.tup _ _ rfl (fun i x y hx => by simp at hx))
      simp [Builtin.clear_, ht, run_underlying (hE.und _ _ hu)]
    | succ l =>
      simp only at hl
      split at hl
      case h_2 => cases hl
      rename_i z hz
      split at hl
      case h_2 => cases hl
      rename_i H1 hput
      injection hl with hl; injection hl with e1 e2; subst e1 e2
      obtain ⟨hz1, hz2⟩ := zeroOf_ok hE hz γ H.next w
      obtain ⟨w', k1, k2, k3, _⟩ := h.put E.P hb hput (zerosL_rel hz2.cells (l + 1))
      refine ⟨γ, .tuple #[], w', by rw [k3]; exact Ext.refl _ _, ?_, .tup _ _ rfl (fun i x y hx => by simp at hx), k2⟩
      have hzz : (Builtin.zeroCells z.cells (l + 1)).toList = zerosL z.cells.toList (l + 1) := by
        have := zerosL_eq z.cells.toList (l + 1)
        unfold Builtin.zeroCells
        simp only [← Array.length_toList]
        exact this
      simp only [Builtin.clear_, ht, List.getElem?_toArray, List.getElem?_cons_zero, Sem.run_bind, run_underlying (hE.und _ _ hu), Result.andThen_ok, hz1, hzz, k1, Sem.run_pure]
  · cases hl
end
/-! ### functions without a Go body -/
/-! unsafe.SliceData, unsafe.String -/
noncomputable def aUSD (x : Value) : Option Value :=
  match x with
  | .slice none 0 0 => some (.pointer none)
  | .slice (some ⟨b, o, none⟩) _ (_ + 1) => some (.pointer (some ⟨b, o, none⟩))
  | _ => none
noncomputable def bytes8 : List Value → Option (List UInt8)
  | [] => some []
  | .int .u8 (.ofNat n) :: l => match Nat.ble n 255, bytes8 l with
    | true, some r => some (UInt8.ofNat n :: r)
    | _, _ => none
  | _ :: _ => none
noncomputable def aUStr (E : Env) (pt : TypeId) (p n : Value) (H : AH) : Option (Value × AH) :=
  match p, n with
  | .pointer none, .int .i64 (.ofNat 0) => some (.string ⟨⟨[]⟩⟩, H)
  | .pointer (some ⟨b, 0, none⟩), .int .i64 (.ofNat (k + 1)) => match E.und pt, H.obj b with
    | some (.pointer e), .cells B => match Nat.beq B.abs 0 && !B.ro && Nat.beq e B.ty && Nat.beq (E.P.cellsOf e) 1 && Nat.ble (k + 1) B.cs.length && Nat.ble (k + 1) 9223372036854775807, bytes8 (B.cs.take (k + 1)) with
      | true, some bs => some (.string ⟨⟨bs⟩⟩, H.kill (H.mem B.fam) B.fam [])
      | _, _ => none
    | _, _ => none
  | _, _ => none
theorem bytes8_get : ∀ (vs : List Value) (bs : List UInt8), bytes8 vs = some bs → bs.length = vs.length ∧ ∀ (j : Nat) (x : UInt8), bs[j]? = some x → vs[j]? = some (Value.int .u8 (Int.ofNat x.toNat)) := by
  intro vs
  induction vs with
  | nil => intro bs h; injection h with h; subst h; exact ⟨rfl, fun j x hx => by simp at hx⟩
  | cons v vs ih =>
    intro bs h
    unfold bytes8 at h
    split at h
    · rename_i e; cases e
    · rename_i n l e
      injection e with e1 e2
      subst e1 e2
      split at h
      case h_2 => cases h
      rename_i r hn hr
      injection h with h; subst h
      obtain ⟨h1, h2⟩ := ih _ hr
      have hn' := Nat.le_of_ble_eq_true hn
      refine ⟨by simp [h1], fun j x hx => ?_⟩
      cases j with
      | zero =>
        simp only [List.getElem?_cons_zero, Option.some.injEq] at hx ⊢
        subst hx
        congr 2
        simp
        omega
      | succ j => simpa using h2 j x (by simpa using hx)
    · cases h
theorem aUSD_ok {P : Program} {w : World} {γ : Nat → G} {n : Nat} {ts : Array TypeId} {ty : TypeId} {x x' v : Value} (hx : VRel γ n x x') (h : aUSD x = some v) : ∃ v', (Builtin.unsafeSliceData_ ts ty #[x']).run P w = .ok v' w ∧ VRel γ n v v' := by
  unfold aUSD at h
  split at h
  · injection h with h; subst h
    rw [hx.nilslice_inv.2.2]
    exact ⟨_, Lib.run_unsafeSliceData_nil w ts ty 0 0, .nilptr⟩
  · rename_i b o l c
    injection h with h; subst h
    obtain ⟨_, hb, _, _, c', rfl, hc⟩ := hx.slice_inv
    exact ⟨_, Lib.run_unsafeSliceData_row w ts ty _ l c' (by omega), .ptr b o hb⟩
  · cases h
theorem aUStr_ok {E : Env} {base : Bs} {w0 w : World} {γ : Nat → G} {H : AH} (hE : E.OK) (h : HRel γ base w0 H w) {pt it ty : TypeId} {p p' n n' v : Value} {H' : AH} (hp : VRel γ H.next p p') (hn : VRel γ H.next n n') (hl : aUStr E pt p n H = some (v, H')) :
    VOK E.P base w0 γ H w (Builtin.unsafeString_ #[pt, it] ty #[p', n']) v H' := by
  unfold aUStr at hl
  split at hl
  · injection hl with hl; injection hl with e1 e2; subst e1 e2
    rw [hp.nilptr_inv, hn.int_inv]
    exact VOK.same h (Lib.run_unsafeString_none w pt it ty none) (.string _)
  · rename_i b k
    split at hl
    case h_2 => cases hl
    rename_i e B hpt hob
    split at hl
    case h_2 => cases hl
    rename_i bs hq hbs
    injection hl with hl; injection hl with e1 e2; subst e1 e2
    simp only [Bool.and_eq_true] at hq
    obtain ⟨⟨⟨⟨⟨q1, q2⟩, q3⟩, q4⟩, q5⟩, q6⟩ := hq
    have q1' := Nat.eq_of_beq_eq_true q1
    have q2' : B.ro = false := by cases hr : B.ro <;> first | rfl | (rw [hr] at q2; cases q2)
    have q3' := Nat.eq_of_beq_eq_true q3
    have q4' := Nat.eq_of_beq_eq_true q4
    have q5' := Nat.le_of_ble_eq_true q5
    have q6' := Nat.le_of_ble_eq_true q6
    obtain ⟨_, hb, rfl⟩ := hp.ptr_inv
    rw [hn.int_inv]
    have hrel := h.rel b hb
    rw [hob] at hrel
    obtain ⟨C, ty0, fz, k1, k2f, k3⟩ := hrel
    obtain ⟨rfl, k2⟩ := k2f q2'
    have h0 := k3.abs q1'
    obtain ⟨hlen, hget⟩ := bytes8_get _ _ hbs
    have hlen' : bs.length = k + 1 := by rw [hlen, List.length_take]; omega
    have hsh : w.shape? (γ b).blk = some (e, C.size) := by simp [World.shape?, k1, q3']
    have t1 := k3.top
    have t2 := k3.len
    have t3 := k3.le
    have hcell : ∀ j x, bs[j]? = some x → w.cell? ((⟨(γ b).blk, 0, none⟩ : Addr).add j) = some (.int .u8 x.toNat) := by
      intro j x hx
      have hv := hget j x hx
      have hjl := (List.getElem?_eq_some_iff.1 hx).1
      rw [List.getElem?_take, if_pos (by omega)] at hv
      obtain ⟨v', g1, g2⟩ := k3.at_ j _ hv
      rw [g2.int_inv, h0, Nat.zero_add] at g1
      have : (⟨(γ b).blk, 0, none⟩ : Addr).add j = ⟨(γ b).blk, j, none⟩ := by unfold Addr.add; split <;> simp_all
      rw [this]
      simp only [World.cell?, k1]
      exact g1
    have hrun := Lib.run_unsafeString_row w pt it ty e (hE.und _ _ hpt) q4' (γ b).blk C.size hsh bs (by intro q; rw [q] at hlen'; simp at hlen') (by omega) (by omega) hcell
    rw [hlen'] at hrun
    have hmem : ∀ x, x < H.next → H.obj x ≠ .gone → (γ x).blk = (γ b).blk → x ∈ H.mem B.fam := by
      intro x hx hnx hbx
      by_cases q : x = b
      · subst q; exact h.inl x B hx hob
      · obtain ⟨A, B2, hA, hB2, hf, _⟩ := h.apart x b hx hb q hnx (by rw [hob]; exact fun e => by cases e) hbx
        rw [hob] at hB2; injection hB2 with hB2; subst hB2
        rw [← hf]; exact h.inl x A hx hA
    have hsb : SameBut (γ b).blk w (w.freeze ⟨(γ b).blk, 0, none⟩ (k + 1)) := by
      refine ⟨rfl, rfl, rfl, by simp [World.freeze], fun j hj => ?_⟩
      simp only [World.freeze]
      rw [if_neg (by omega)]
      simp only [Array.getElem?_modify, if_neg (Ne.symm hj)]
    have hw' : (w.freeze ⟨(γ b).blk, 0, none⟩ (k + 1)).heap[(γ b).blk]? = some (.cells C B.ty (if fz.1 == fz.2 then (0, 0 + (k + 1)) else (min fz.1 0, max fz.2 (0 + (k + 1))))) := by
      simp [World.freeze, Array.getElem?_modify, k1]
    have hW := h.write2 (C := C) (C' := C) k1 (h.own b hb (by rw [hob]; exact fun q => by cases q) (by rw [hob]; exact q2')) hsb hw' rfl (H.mem B.fam) [] (fun x X hx hX hbx hk => absurd (hmem x hx (by rw [hX]; exact fun q => by cases q) hbx) hk) B.fam (fun x hx hnx hbx => .inl (hmem x hx hnx hbx)) (fun x hx hk => absurd hx hk)
    refine ⟨γ, .string ⟨⟨bs⟩⟩, _, Ext.refl _ _, ?_, .string _, hW⟩
    have ha : (⟨(γ b).blk, (γ b).off + 0, none⟩ : Addr) = ⟨(γ b).blk, 0, none⟩ := by rw [h0]
    rw [ha]
    exact hrun
  · cases hl
/-- Functions without a Go body that the runs know. -/
inductive Xt where
  | count
  | idxByte
  | noEsc
noncomputable def Xt.sem : Xt → Array Value → Sem Value
  | .count => Extern.BytealgCount.count
  | .idxByte => Extern.BytealgIndexByte.indexByte
  | .noEsc => Extern.AbiNoEscape.same
noncomputable def aExt (k : Xt) (args : List Value) : Option Value :=
  match k, args with
  | .count, [.string s, .int .u8 c] => some (.int .i64 (Lib.countByte s.data.toList c.toNat.toUInt8))
  | .idxByte, [.string s, .int .u8 c] => some (.int .i64 (Lib.indexByte s.data.toList c.toNat.toUInt8))
  | .noEsc, [x] => some x
  | _, _ => none
theorem LRel.two {γ : Nat → G} {n : Nat} {u v : Value} {l : List Value} (h : LRel γ n [u, v] l) : ∃ u' v', l = [u', v'] ∧ VRel γ n u u' ∧ VRel γ n v v' := by
  obtain ⟨h1, h2⟩ := h
  match l, h1 with
  | [a, b], _ => exact ⟨a, b, rfl, h2 0 _ _ rfl rfl, h2 1 _ _ rfl rfl⟩
theorem aExt_ok {P : Program} {γ : Nat → G} {n : Nat} {w : World} {k : Xt} {args args' : List Value} {v : Value} (hr : LRel γ n args args') (h : aExt k args = some v) : ∃ v', (k.sem ⟨args'⟩).run P w = .ok v' w ∧ VRel γ n v v' := by
  unfold aExt at h
  split at h
  · rename_i s c
    obtain ⟨u', v', rfl, hu, hv'⟩ := hr.two
    injection h with h; subst h
    have q1 := hu.string_inv
    have q2 := hv'.int_inv
    subst q1 q2
    exact ⟨_, Lib.run_countString s c w, .int _ _⟩
  · rename_i s c
    obtain ⟨u', v', rfl, hu, hv'⟩ := hr.two
    injection h with h; subst h
    have q1 := hu.string_inv
    have q2 := hv'.int_inv
    subst q1 q2
    exact ⟨_, Lib.run_indexByteString s c w, .int _ _⟩
  · rename_i x
    obtain ⟨x', r, rfl, h1, h2⟩ := hr.inv_cons
    rw [h2.inv_nil]
    injection h with h; subst h
    exact ⟨x', rfl, h1⟩
  · cases h
end Go.Proofs.YtohgenhjdgdkgaaGreatDoor.Sh
