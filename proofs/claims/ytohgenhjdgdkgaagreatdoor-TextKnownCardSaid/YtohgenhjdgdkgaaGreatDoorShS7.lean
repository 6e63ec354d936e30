import Derived.Test.YtohgenhjdgdkgaaGreatDoorShS6
namespace Go.Proofs.YtohgenhjdgdkgaaGreatDoor.Sh
open Go.RowKit
set_option linter.unusedVariables false
set_option linter.unusedSimpArgs false

section
variable {E : Env} {base : Bs} {w0 w : World} {γ : Nat → G} {H : AH}
/-- A number for a block that is not there. -/
theorem HRel.ghost (h : HRel γ base w0 H w) (g : G) : HRel (upd γ H.next g) base w0 (H.new .gone H.next (H.mem H.next)) w := by
  refine ⟨h.below, by rw [AH.new_g0, AH.new_next]; exact Nat.le_succ_of_le h.g0, ?_, ?_, ?_, ?_, ?_, h.fits, fun p hp => ⟨(h.pins p hp).1, (h.pins p hp).2.1, fun x hx hn => ?_⟩⟩
  case refine_6 =>
    rw [AH.new_next] at hx
    rw [AH.new_obj] at hn
    by_cases e : x = H.next
    · rw [if_pos e] at hn; exact absurd rfl hn
    · rw [if_neg e] at hn; rw [upd_lt _ _ _ (by omega)]; exact (h.pins p hp).2.2 x (by omega) hn
  · intro x hx
    rw [AH.new_g0] at hx
    rw [upd_lt _ _ _ (Nat.lt_of_lt_of_le hx h.g0)]
    exact h.glob x hx
  · intro b hb
    rw [AH.new_next] at hb
    rw [AH.new_obj, AH.new_next]
    by_cases e : b = H.next
    · rw [if_pos e]; trivial
    · rw [if_neg e]; exact ORel.ext (upd_ext _ _ _) (by omega) rfl (h.rel b (by omega))
  · intro b hb hn hr
    rw [AH.new_next] at hb
    rw [AH.new_obj] at hn hr
    by_cases e : b = H.next
    · rw [if_pos e] at hn; exact absurd rfl hn
    · rw [if_neg e] at hn hr; rw [upd_lt _ _ _ (by omega)]; exact h.own b (by omega) hn hr
  · intro a b ha hb hab hna hnb hblk
    rw [AH.new_next] at ha hb
    rw [AH.new_obj] at hna hnb
    rw [AH.new_obj, AH.new_obj]
    by_cases ea : a = H.next
    · rw [if_pos ea] at hna; exact absurd rfl hna
    · by_cases eb : b = H.next
      · rw [if_pos eb] at hnb; exact absurd rfl hnb
      · rw [if_neg ea] at hna ⊢
        rw [if_neg eb] at hnb ⊢
        rw [upd_lt _ _ _ (by omega), upd_lt _ _ _ (by omega)] at hblk ⊢
        exact h.apart a b (by omega) (by omega) hab hna hnb hblk
  · intro b X hb hX
    rw [AH.new_next] at hb
    rw [AH.new_obj] at hX
    rw [AH.new_mem]
    by_cases e : b = H.next
    · rw [if_pos e] at hX; cases hX
    · rw [if_neg e] at hX
      have := h.inl b X (by omega) hX
      by_cases e2 : X.fam = H.next
      · rw [if_pos e2]; rw [e2] at this; exact this
      · rw [if_neg e2]; exact this
/-! slices of slices, strings, arrays -/
noncomputable def ivN : Option Value → Nat → Option Nat
  | none, d => some d
  | some (.int _ (.ofNat j)), _ => some j
  | _, _ => none
noncomputable def ORelV (γ : Nat → G) (n : Nat) : Option Value → Option Value → Prop
  | none, none => True
  | some a, some b => VRel γ n a b
  | _, _ => False
theorem sb_ok {P : Program} (isSlice : Bool) (len cap l h m : Nat) (lo hi mx : Option Value) (h1 : ivN lo 0 = some l) (h2 : ivN hi len = some h) (h3 : ivN mx cap = some m) (h4 : mx.isSome = true → hi.isSome = true) (hlh : l ≤ h) (hhm : h ≤ m) (hmc : m ≤ cap) (w : World) :
    (Instr.sliceBounds isSlice len cap lo hi mx).run P w = .ok (l, h, m) w := by
  have key : ∀ (v : Option Value) (d j : Nat), ivN v d = some j → (v = none ∧ j = d) ∨ ∃ k, v = some (.int k (j : Int)) := by
    intro v d j hv
    unfold ivN at hv
    split at hv
    · injection hv with hv; exact .inl ⟨rfl, hv.symm⟩
    · injection hv with hv; subst hv; exact .inr ⟨_, rfl⟩
    · cases hv
  have b1 : ∀ (k : IntKind) (i y : Nat) (code : BoundsCode), i ≤ y → (Instr.sliceBound (.int k (i : Int)) y code).run P w = .ok i w := by
    intro k i y code hiy
    have := run_sliceBound (P := P) (w := w) k (i : Int) y code (Int.natCast_nonneg i) (by omega)
    simpa using this
  rcases key mx cap m h3 with ⟨rfl, rfl⟩ | ⟨km, rfl⟩
  · rcases key hi len h h2 with ⟨rfl, rfl⟩ | ⟨kh, rfl⟩
    · rcases key lo 0 l h1 with ⟨rfl, rfl⟩ | ⟨kl, rfl⟩
      · simp [Instr.sliceBounds]
      · simp [Instr.sliceBounds, b1 _ _ _ _ hlh]
    · rcases key lo 0 l h1 with ⟨rfl, rfl⟩ | ⟨kl, rfl⟩
      · simp [Instr.sliceBounds, b1 _ _ _ _ hhm]
      · simp [Instr.sliceBounds, b1 _ _ _ _ hhm, b1 _ _ _ _ hlh]
  · rcases key hi len h h2 with ⟨rfl, rfl⟩ | ⟨kh, rfl⟩
    · have := h4 rfl; cases this
    · rcases key lo 0 l h1 with ⟨rfl, rfl⟩ | ⟨kl, rfl⟩
      · simp [Instr.sliceBounds, b1 _ _ _ _ hmc, b1 _ _ _ _ hhm]
      · simp [Instr.sliceBounds, b1 _ _ _ _ hmc, b1 _ _ _ _ hhm, b1 _ _ _ _ hlh]
theorem ivN_rel {n d j : Nat} {v v' : Option Value} (h : ORelV γ n v v') (hv : ivN v d = some j) : ivN v' d = some j := by
  cases v with
  | none => cases v' with
    | none => exact hv
    | some x => cases h
  | some x => cases v' with
    | none => cases h
    | some y =>
      unfold ivN at hv
      split at hv
      · rename_i e; cases e
      · rename_i k j' e
        injection e with e; subst e
        have := VRel.int_inv h
        subst this
        exact hv
      · cases hv
theorem ivN_dflt (y : Value) (d d' : Nat) : ivN (some y) d = ivN (some y) d' := by
  cases y <;> try rfl
  rename_i k i
  cases i <;> rfl
theorem isSome_rel {n : Nat} {v v' : Option Value} (h : ORelV γ n v v') : v'.isSome = v.isSome := by cases v <;> cases v' <;> first | rfl | cases h
noncomputable def aSlice (E : Env) (t : TypeId) (x : Value) (lo hi mx : Option Value) (H : AH) : Option (Value × AH) :=
  match E.und t with
  | some .string => match x, mx with
    | .string s, none => match ivN lo 0, ivN hi s.size with
      | some l, some h => match Nat.ble l h && Nat.ble h s.size with
        | true => some (.string ⟨⟨(s.data.toList.drop l).take (h - l)⟩⟩, H)
        | false => none
      | _, _ => none
    | _, _ => none
  | some (.slice e) => match x with
    | .slice none 0 0 => match ivN lo 0, ivN hi 0, ivN mx 0, (!mx.isSome || hi.isSome) && (E.inf e).isSome with
      | some 0, some 0, some 0, true => some (.slice none 0 0, H)
      | _, _, _, _ => none
    | .slice (some ⟨b, o, none⟩) l c => match E.inf e, H.obj b with
      | some i, .cells B => match ivN lo 0, ivN hi l, ivN mx c, Nat.beq B.esz i.size && Nat.ble 1 i.size && (!mx.isSome || hi.isSome) with
        | some lo, some hi, some m, true => match Nat.ble lo hi && Nat.ble hi m && Nat.ble m c with
          | true => match Nat.beq m lo with
            | false => some (.slice (some ⟨b, o + lo * i.size, none⟩) (hi - lo) (m - lo), H)
            | true => match lo, mx.isSome || Nat.ble (o + c * i.size + 1) B.cs.length || B.ex with
              | 0, _ => some (.slice (some ⟨b, o, none⟩) 0 0, H)
              | _ + 1, true => some (.slice (some ⟨b, o, none⟩) 0 0, H)
              | _ + 1, false => some (.slice (some ⟨H.next, 0, none⟩) 0 0, H.new .gone H.next (H.mem H.next))
          | false => none
        | _, _, _, _ => none
      | _, _ => none
    | _ => none
  | some (.array n e) => match x with
    | .pointer (some ⟨b, o, none⟩) => match E.inf e, H.obj b with
      | some i, .cells B => match ivN lo 0, ivN hi n, ivN mx n, Nat.beq B.esz i.size && Nat.ble (o + n * i.size) B.cs.length && (!mx.isSome || hi.isSome) with
        | some lo, some hi, some m, true => match Nat.ble lo hi && Nat.ble hi m && Nat.ble m n with
          | true => match Nat.beq m lo with
            | false => some (.slice (some ⟨b, o + lo * i.size, none⟩) (hi - lo) (m - lo), H)
            | true => some (.slice (some ⟨b, o, none⟩) 0 0, H)
          | false => none
        | _, _, _, _ => none
      | _, _ => none
    | _ => none
  | _ => none
theorem aSlice_ok (hE : E.OK) (h : HRel γ base w0 H w) {t : TypeId} {x x' : Value} {lo hi mx lo' hi' mx' : Option Value} {v : Value} {H' : AH} (hx : VRel γ H.next x x') (h1 : ORelV γ H.next lo lo') (h2 : ORelV γ H.next hi hi') (h3 : ORelV γ H.next mx mx')
    (hl : aSlice E t x lo hi mx H = some (v, H')) : VOK E.P base w0 γ H w (Instr.sliceAt t x' lo' hi' mx') v H' := by
  unfold aSlice at hl
  split at hl
  · -- strings
    rename_i hu
    split at hl
    case h_2 => cases hl
    rename_i s
    rw [hx.string_inv]
    have e3 : mx' = none := by cases mx' with
      | none => rfl
      | some y => cases h3
    subst e3
    split at hl
    case h_2 => cases hl
    rename_i l h' hlo hhi
    split at hl
    case h_2 => cases hl
    rename_i hb
    rw [Bool.and_eq_true] at hb
    have b1 := Nat.le_of_ble_eq_true hb.1
    have b2 := Nat.le_of_ble_eq_true hb.2
    injection hl with hl; injection hl with e1 e2; subst e1 e2
    refine VOK.same h (v' := .string ⟨⟨(s.data.toList.drop l).take (h' - l)⟩⟩) ?_ (.string _)
    have hs := sb_ok (P := E.P) false s.size s.size l h' s.size lo' hi' none (ivN_rel h1 hlo) (ivN_rel h2 hhi) rfl (fun q => by cases q) b1 b2 (Nat.le_refl _) w
    have he : s.extract l h' = ⟨⟨(s.data.toList.drop l).take (h' - l)⟩⟩ := by
      apply ByteArray.ext
      rw [ByteArray.data_extract]
      apply Array.ext'
      rw [Array.toList_extract]
    simp [Instr.sliceAt, Instr.slice, run_underlying (hE.und _ _ hu), hs, he]
  · -- slices
    rename_i e hu
    split at hl
    · have hx' := hx.nilslice_inv
      rw [hx'.2.2]
      split at hl
      case h_2 => cases hl
      rename_i hlo hhi hmx hsm
      injection hl with hl; injection hl with e1 e2; subst e1 e2
      refine VOK.same h (v' := .slice none 0 0) ?_ .nilslice
      rw [Bool.and_eq_true] at hsm
      obtain ⟨hsm, hie⟩ := hsm
      obtain ⟨i, hi⟩ := Option.isSome_iff_exists.1 hie
      have hs := sb_ok (P := E.P) true 0 0 0 0 0 lo' hi' mx' (ivN_rel h1 hlo) (ivN_rel h2 hhi) (ivN_rel h3 hmx) (by rw [isSome_rel h3, isSome_rel h2]; intro q; simpa [q] using hsm) (Nat.le_refl _) (Nat.le_refl _) (Nat.le_refl _) w
      simp [Instr.sliceAt, Instr.slice, run_underlying (hE.und _ _ hu), hs, sizeOf_run (hE.inf _ _ hi)]
    · rename_i b o l c
      obtain ⟨_, hb, hlc, hoc, c', rfl, hcc⟩ := hx.slice_inv
      split at hl
      case h_2 => cases hl
      rename_i i B hi hob
      split at hl
      case h_2 => cases hl
      rename_i lo_ hi_ m hlo hhi hmx hck
      rw [Bool.and_eq_true, Bool.and_eq_true] at hck
      have hesz := Nat.eq_of_beq_eq_true hck.1.1
      have hpos := Nat.le_of_ble_eq_true hck.1.2
      have hsm := hck.2
      split at hl
      case h_2 => cases hl
      rename_i hbd
      rw [Bool.and_eq_true, Bool.and_eq_true] at hbd
      have b1 := Nat.le_of_ble_eq_true hbd.1.1
      have b2 := Nat.le_of_ble_eq_true hbd.1.2
      have b3 := Nat.le_of_ble_eq_true hbd.2
      have hrel := h.rel b hb
      rw [hob] at hrel
      obtain ⟨C, ty0, fz, k1, k2, k3⟩ := hrel
      have hge : (γ b).esz = i.size := by rw [← k3.esz]; exact hesz
      have hlenB := k3.len
      rw [hge] at hoc hcc
      have hcc2 : c ≤ c' := by rcases hcc with q | q <;> omega
      obtain ⟨m', hm', hm1, hm2⟩ : ∃ m', ivN mx' c' = some m' ∧ (mx.isSome = true → m' = m) ∧ (mx.isSome = false → m' = c' ∧ m = c) := by
        cases hmm : mx with
        | none =>
          have e3 : mx' = none := by rw [hmm] at h3; cases mx' with
            | none => rfl
            | some y => cases h3
          subst e3
          rw [hmm] at hmx
          injection hmx with hmx
          exact ⟨c', rfl, (fun q => by cases q), fun _ => ⟨rfl, hmx.symm⟩⟩
        | some y =>
          rw [hmm] at hmx h3
          have := ivN_rel h3 hmx
          cases mx' with
          | none => cases h3
          | some y' => exact ⟨m, (ivN_dflt y' c' c).trans this, fun _ => rfl, (fun q => by cases q)⟩
      have hmc' : hi_ ≤ m' ∧ m' ≤ c' ∧ m ≤ m' := by
        by_cases q : mx.isSome = true
        · have := hm1 q; omega
        · have := hm2 (by simpa using q); omega
      have hs := sb_ok (P := E.P) true l c' lo_ hi_ m' lo' hi' mx' (ivN_rel h1 hlo) (ivN_rel h2 hhi) hm' (by rw [isSome_rel h3, isSome_rel h2]; intro q; simpa [q] using hsm) b1 hmc'.1 hmc'.2.1 w
      have hrun : (Instr.sliceAt t (.slice (some ⟨(γ b).blk, (γ b).off + o, none⟩) l c') lo' hi' mx').run E.P w = .ok (.slice (if m' = lo_ then some ⟨(γ b).blk, (γ b).off + o, none⟩ else some ⟨(γ b).blk, (γ b).off + o + lo_ * i.size, none⟩) (hi_ - lo_) (m' - lo_)) w := by
        simp [Instr.sliceAt, Instr.slice, run_underlying (hE.und _ _ hu), hs, sizeOf_run (hE.inf _ _ hi), add_at]
      have ar : lo_ ≤ m → o + lo_ * i.size + (m - lo_) * i.size = o + m * i.size := fun q => by
        rw [Nat.add_assoc, ← Nat.add_mul]; congr 2; omega
      have ar' : lo_ ≤ m' → o + lo_ * i.size + (m' - lo_) * i.size = o + m' * i.size := fun q => by
        rw [Nat.add_assoc, ← Nat.add_mul]; congr 2; omega
      have hmle : o + m * i.size ≤ (γ b).size := by have := Nat.mul_le_mul_right i.size b3; omega
      split at hl
      · rename_i hne
        have hne' : m ≠ lo_ := fun q => by rw [q] at hne; rw [Nat.beq_refl] at hne; cases hne
        injection hl with hl; injection hl with e1 e2; subst e1 e2
        have hne2 : m' ≠ lo_ := by omega
        refine VOK.same h (v' := .slice (some ⟨(γ b).blk, (γ b).off + (o + lo_ * i.size), none⟩) (hi_ - lo_) (m' - lo_)) ?_ ?_
        · rw [hrun, if_neg hne2, Nat.add_assoc]
        · refine .slice b (o + lo_ * i.size) (hi_ - lo_) (m - lo_) (m' - lo_) hb (by omega) (by rw [hge, ar (by omega)]; exact hmle) ?_
          by_cases q : mx.isSome = true
          · left; have := hm1 q; omega
          · obtain ⟨q1, q2⟩ := hm2 (by simpa using q)
            rcases hcc with r | ⟨r1, r2, r3⟩
            · left; omega
            · right
              refine ⟨by rw [hge, ar (by omega), q2]; exact r1, by omega, by rw [hge, ar' (by omega), q1]; exact r3⟩
      · rename_i hbe
        have hml := Nat.eq_of_beq_eq_true hbe
        have hhl : hi_ - lo_ = 0 := by omega
        rw [hhl] at hrun
        cases lo_ with
        | zero =>
          simp only at hl
          injection hl with hl; injection hl with e1 e2; subst e1 e2
          refine VOK.same h (v' := .slice (some ⟨(γ b).blk, (γ b).off + o, none⟩) 0 m') ?_ ?_
          · rw [hrun]
            simp
          · refine .slice b o 0 0 m' hb (Nat.le_refl _) (by simp; omega) ?_
            by_cases q : mx.isSome = true
            · left; have := hm1 q; omega
            · obtain ⟨q1, q2⟩ := hm2 (by simpa using q)
              have hc0 : c = 0 := by omega
              rcases hcc with r | ⟨r1, r2, r3⟩
              · left; omega
              · right
                refine ⟨by rw [hge]; simp; rw [hc0] at r1; simpa using r1, by omega, by rw [hge, q1]; exact r3⟩
        | succ j =>
         cases hfl : (mx.isSome || Nat.ble (o + c * i.size + 1) B.cs.length || B.ex) with
         | true =>
          rw [hfl] at hl
          simp only at hl
          injection hl with hl; injection hl with e1 e2; subst e1 e2
          have hmm' : m' = j + 1 := by
            by_cases q : mx.isSome = true
            · have := hm1 q; omega
            · obtain ⟨q1, q2⟩ := hm2 (by simpa using q)
              rcases hcc with r | ⟨r1, r2, r3⟩
              · omega
              · have q' : mx.isSome = false := by simpa using q
                rw [q', Bool.false_or, Bool.or_eq_true] at hfl
                rcases hfl with he | he
                · have := Nat.le_of_ble_eq_true he; omega
                · have hx := k3.ex he
                  have hcc' : c' * i.size = c * i.size := by omega
                  have : c' = c := Nat.eq_of_mul_eq_mul_right hpos hcc'
                  omega
          refine VOK.same h (v' := .slice (some ⟨(γ b).blk, (γ b).off + o, none⟩) 0 0) ?_ (.slice b o 0 0 0 hb (Nat.le_refl _) (by simp; omega) (.inl rfl))
          rw [hrun, if_pos hmm', hmm', Nat.sub_self]
         | false =>
          rw [hfl] at hl
          simp only at hl
          injection hl with hl; injection hl with e1 e2; subst e1 e2
          let g : G := ⟨(γ b).blk, if m' = j + 1 then (γ b).off + o else (γ b).off + o + (j + 1) * i.size, 0, (m' - (j + 1)) * i.size, i.size⟩
          refine ⟨_, .slice (some ⟨g.blk, g.off + 0, none⟩) 0 (m' - (j + 1)), w, upd_ext _ _ g, ?_, ?_, h.ghost g⟩
          · rw [hrun]
            congr 2
            by_cases q : m' = j + 1
            · rw [if_pos q]; simp [g, q]
            · rw [if_neg q]; simp [g, q]
          · have := VRel.slice (γ := upd γ H.next g) (n := H.next + 1) H.next 0 0 0 (m' - (j + 1)) (by omega) (Nat.le_refl _) (by rw [upd_at]; simp) (.inr ⟨by rw [upd_at]; simp [g], by omega, by rw [upd_at]; simp [g]⟩)
            rw [upd_at] at this
            exact this
    · cases hl
  · -- arrays
    rename_i n e hu
    split at hl
    case h_2 => cases hl
    rename_i b o
    obtain ⟨_, hb, rfl⟩ := hx.ptr_inv
    split at hl
    case h_2 => cases hl
    rename_i i B hi hob
    split at hl
    case h_2 => cases hl
    rename_i lo_ hi_ m hlo hhi hmx hck
    rw [Bool.and_eq_true, Bool.and_eq_true] at hck
    have hesz := Nat.eq_of_beq_eq_true hck.1.1
    have hn := Nat.le_of_ble_eq_true hck.1.2
    have hsm := hck.2
    split at hl
    case h_2 => cases hl
    rename_i hbd
    rw [Bool.and_eq_true, Bool.and_eq_true] at hbd
    have b1 := Nat.le_of_ble_eq_true hbd.1.1
    have b2 := Nat.le_of_ble_eq_true hbd.1.2
    have b3 := Nat.le_of_ble_eq_true hbd.2
    have hrel := h.rel b hb
    rw [hob] at hrel
    obtain ⟨C, ty0, fz, k1, k2, k3⟩ := hrel
    have hge : (γ b).esz = i.size := by rw [← k3.esz]; exact hesz
    have hlenB := k3.len
    have hs := sb_ok (P := E.P) false n n lo_ hi_ m lo' hi' mx' (ivN_rel h1 hlo) (ivN_rel h2 hhi) (ivN_rel h3 hmx) (by rw [isSome_rel h3, isSome_rel h2]; intro q; simpa [q] using hsm) b1 b2 b3 w
    have hrun : (Instr.sliceAt t (.pointer (some ⟨(γ b).blk, (γ b).off + o, none⟩)) lo' hi' mx').run E.P w = .ok (.slice (some (if m = lo_ then ⟨(γ b).blk, (γ b).off + o, none⟩ else ⟨(γ b).blk, (γ b).off + o + lo_ * i.size, none⟩)) (hi_ - lo_) (m - lo_)) w := by
      simp [Instr.sliceAt, Instr.sureAddr, run_underlying (hE.und _ _ hu), hs, sizeOf_run (hE.inf _ _ hi), add_at]
    have hmle : o + m * i.size ≤ (γ b).size := by have := Nat.mul_le_mul_right i.size b3; omega
    split at hl
    · rename_i hne
      have hne' : m ≠ lo_ := fun q => by rw [q] at hne; rw [Nat.beq_refl] at hne; cases hne
      injection hl with hl; injection hl with e1 e2; subst e1 e2
      refine VOK.same h (v' := .slice (some ⟨(γ b).blk, (γ b).off + (o + lo_ * i.size), none⟩) (hi_ - lo_) (m - lo_)) ?_ ?_
      · rw [hrun, if_neg hne', Nat.add_assoc]
      · refine .slice b (o + lo_ * i.size) (hi_ - lo_) (m - lo_) (m - lo_) hb (by omega) ?_ (.inl rfl)
        rw [hge, Nat.add_assoc, ← Nat.add_mul, show lo_ + (m - lo_) = m by omega]; exact hmle
    · rename_i hbe
      have hml := Nat.eq_of_beq_eq_true hbe
      injection hl with hl; injection hl with e1 e2; subst e1 e2
      refine VOK.same h (v' := .slice (some ⟨(γ b).blk, (γ b).off + o, none⟩) 0 0) ?_ (.slice b o 0 0 0 hb (Nat.le_refl _) (by simp; omega) (.inl rfl))
      rw [hrun, if_pos hml, show hi_ - lo_ = 0 by omega, hml, Nat.sub_self]
  · cases hl
end
end Go.Proofs.YtohgenhjdgdkgaaGreatDoor.Sh
