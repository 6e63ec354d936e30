import Derived.Test.YtohgenhjdgdkgaaGreatDoorShS8
namespace Go.Proofs.YtohgenhjdgdkgaaGreatDoor.Sh
open Go.RowKit
set_option linter.unusedVariables false
set_option linter.unusedSimpArgs false

/-! ### comparing -/
section
variable {E : Env} {base : Bs} {w0 w : World} {γ : Nat → G} {H : AH}
noncomputable def isNoneA : Option Addr → Bool
  | none => true
  | some _ => false
noncomputable def isNoneN : Option Nat → Bool
  | none => true
  | some _ => false
noncomputable def boolEq : Bool → Bool → Bool
  | true, true => true
  | false, false => true
  | _, _ => false
noncomputable def aEqF (E : Env) (rec : TypeId → Value → Value → Option Bool) (xs ys : List Value) : List Field → Option Bool
  | [] => some true
  | f :: fs => match aPart E f.type xs f.offset, aPart E f.type ys f.offset with
    | some a, some b => match rec f.type a b with
      | some true => aEqF E rec xs ys fs
      | some false => some false
      | none => none
    | _, _ => none
noncomputable def aEq (E : Env) : Nat → TypeId → Value → Value → Option Bool
  | 0, _, _, _ => none
  | d + 1, t, x, y => match E.und t with
    | some .bool => match x, y with
      | .bool a, .bool b => some (boolEq a b)
      | _, _ => none
    | some (.int _) => match x, y with
      | .int k a, .int k' b => match kindEq k k' with
        | true => some (eqI a b)
        | false => none
      | _, _ => none
    | some .string => match x, y with
      | .string a, .string b => some (bytesEq a.data.toList b.data.toList)
      | _, _ => none
    | some (.pointer e) => match x, y with
      | .pointer none, .pointer b => some (isNoneA b)
      | .pointer (some _), .pointer none => some false
      | .pointer (some ⟨b, o, none⟩), .pointer (some ⟨b', o', none⟩) => match E.inf e with
        | some i => match Nat.beq b b', Nat.ble 1 i.size with
          | true, true => some (Nat.beq o o')
          | _, _ => none
        | none => none
      | _, _ => none
    | some (.interface _) => match x, y with
      | .nilIface, .nilIface => some true
      | .nilIface, .iface _ _ => some false
      | .iface _ _, .nilIface => some false
      | .iface tx vx, .iface ty vy => match Nat.beq tx ty with
        | false => some false
        | true => match E.inf tx with
          | some i => match i.comparable with
            | true => aEq E d tx vx vy
            | false => none
          | none => none
      | _, _ => none
    | some (.struct fs) => match x, y with
      | .agg xs, .agg ys => match E.cmp t with
        | true => aEqF E (aEq E d) xs.toList ys.toList fs.toList
        | false => none
      | _, _ => none
    | some (.slice _) => match x, y with
      | .slice none _ _, .slice b _ _ => some (isNoneA b)
      | .slice (some _) _ _, .slice none _ _ => some false
      | _, _ => none
    | some (.map _ _) => match x, y with
      | .map none, .map b => some (isNoneN b)
      | .map (some _), .map none => some false
      | _, _ => none
    | some (.func _ _ _) => match x, y with
      | .nilFunc, .nilFunc => some true
      | .nilFunc, .func _ _ _ => some false
      | .func _ _ _, .nilFunc => some false
      | _, _ => none
    | _ => none
theorem eqFields_ok (hE : E.OK) {n : Nat} (d D : Nat) (rec : TypeId → Value → Value → Option Bool) (hrec : ∀ t x y x' y' r, VRel γ n x x' → VRel γ n y y' → rec t x y = some r → (Op.equalIn D t x' y').run E.P w = .ok r w)
    {xs ys xs' ys' : List Value} (hx : LRel γ n xs xs') (hy : LRel γ n ys ys') : ∀ (fs : List Field) (r : Bool), (∀ f ∈ fs, f.name ≠ "_") → aEqF E rec xs ys fs = some r → (Op.eqFields D ⟨xs'⟩ ⟨ys'⟩ fs).run E.P w = .ok r w := by
  intro fs
  induction fs with
  | nil => intro r _ h; injection h with h; subst h; simp [Op.eqFields]
  | cons f fs ih =>
    intro r hn h
    unfold aEqF at h
    split at h
    case h_2 => cases h
    rename_i a b ha hb
    obtain ⟨a', ha1, ha2⟩ := aPart_ok hE hx ha w
    obtain ⟨b', hb1, hb2⟩ := aPart_ok hE hy hb w
    have hn' := hn f (by simp)
    rw [Op.eqFields]
    simp only [if_pos hn', Sem.run_bind, ha1, hb1, Result.andThen_ok]
    split at h
    · rename_i he
      rw [hrec _ _ _ _ _ _ ha2 hb2 he]
      simpa using ih r (fun g hg => hn g (by simp [hg])) h
    · rename_i he
      injection h with h; subst h
      rw [hrec _ _ _ _ _ _ ha2 hb2 he]
      simp
    · cases h
set_option maxHeartbeats 1000000 in
theorem aEq_ok (hE : E.OK) {n : Nat} : ∀ (d D : Nat) (t : TypeId) (x y x' y' : Value) (r : Bool), d ≤ D → VRel γ n x x' → VRel γ n y y' → aEq E d t x y = some r → (Op.equalIn D t x' y').run E.P w = .ok r w := by
  intro d
  induction d with
  | zero => intro D t x y x' y' r _ _ _ h; cases h
  | succ d ih =>
    intro D t x y x' y' r hD hx hy h
    obtain ⟨D, rfl⟩ : ∃ D', D = D' + 1 := ⟨D - 1, by omega⟩
    unfold aEq at h
    split at h
    · rename_i hu
      have hu' := hE.und _ _ hu
      split at h
      case h_2 => cases h
      rename_i a b
      rw [hx.bool_inv, hy.bool_inv]
      injection h with h; subst h
      have : (a == b) = boolEq a b := by cases a <;> cases b <;> rfl
      simp [Op.equalIn, run_underlying hu', this]
    · rename_i hu
      have hu' := hE.und _ _ hu
      split at h
      case h_2 => cases h
      rename_i k a k' b
      split at h
      case h_2 => cases h
      rename_i hk
      have := kindEq_eq hk
      subst this
      rw [hx.int_inv, hy.int_inv]
      injection h with h; subst h
      simp [Op.equalIn, run_underlying hu', eqI_eq]
    · rename_i hu
      have hu' := hE.und _ _ hu
      split at h
      case h_2 => cases h
      rename_i a b
      rw [hx.string_inv, hy.string_inv]
      injection h with h; subst h
      have : (a == b) = bytesEq a.data.toList b.data.toList := by
        rw [bytesEq_eq]
        have h1 : (a == b) = (a.data == b.data) := by cases a; cases b; rfl
        rw [h1, Bool.eq_iff_iff, beq_iff_eq, beq_iff_eq]
        exact ⟨fun q => by rw [q], fun q => Array.ext' q⟩
      simp [Op.equalIn, run_underlying hu', this]
    · rename_i e hu
      have hu' := hE.und _ _ hu
      split at h
      · rename_i b
        injection h with h; subst h
        rw [hx.nilptr_inv]
        cases b with
        | none => rw [hy.nilptr_inv]; simp [Op.equalIn, run_underlying hu', isNoneA]
        | some b => obtain ⟨b1, o1, s1⟩ := b; rw [(hy.ptr_inv).2.2]; simp [Op.equalIn, run_underlying hu', isNoneA]
      · rename_i a
        injection h with h; subst h
        rw [hy.nilptr_inv]
        obtain ⟨b1, o1, s1⟩ := a
        rw [(hx.ptr_inv).2.2]; simp [Op.equalIn, run_underlying hu']
      · rename_i b o b' o' hne
        split at h
        case h_2 => cases h
        rename_i i hi
        split at h
        case h_2 => cases h
        rename_i hb hs
        have hb' := Nat.eq_of_beq_eq_true hb
        subst hb'
        have hs' := Nat.le_of_ble_eq_true hs
        injection h with h; subst h
        rw [(hx.ptr_inv).2.2, (hy.ptr_inv).2.2]
        have hne : ¬ i.size = 0 := by omega
        simp [Op.equalIn, run_underlying hu', sizeOf_run (hE.inf _ _ hi), hne, sameAddr, beq_eq']
        rw [Bool.eq_iff_iff, beq_iff_eq, decide_eq_true_iff]
        exact ⟨fun q => by injection q with q1 q2; omega, fun q => by rw [q]⟩
      · cases h
    · rename_i ms hu
      have hu' := hE.und _ _ hu
      split at h
      · injection h with h; subst h
        rw [hx.nilif_inv, hy.nilif_inv]; simp [Op.equalIn, run_underlying hu']
      · injection h with h; subst h
        obtain ⟨u, hy', _⟩ := hy.iface_inv
        rw [hx.nilif_inv, hy']; simp [Op.equalIn, run_underlying hu']
      · injection h with h; subst h
        obtain ⟨u, hx', _⟩ := hx.iface_inv
        rw [hy.nilif_inv, hx']; simp [Op.equalIn, run_underlying hu']
      · rename_i tx vx ty vy
        obtain ⟨u, hx', hu1⟩ := hx.iface_inv
        obtain ⟨v, hy', hv1⟩ := hy.iface_inv
        rw [hx', hy']
        split at h
        · rename_i hne
          injection h with h; subst h
          have hne' : tx ≠ ty := Nat.ne_of_beq_eq_false hne
          simp [Op.equalIn, run_underlying hu', hne']
        · rename_i he
          have he' := Nat.eq_of_beq_eq_true he
          subst he'
          split at h
          case h_2 => cases h
          rename_i i hi
          split at h
          case h_2 => cases h
          rename_i hc
          have := ih D tx vx vy u v r (by omega) hu1 hv1 h
          simp [Op.equalIn, run_underlying hu', typeInfo, hE.inf _ _ hi, hc, this]
      · cases h
    · rename_i fs hu
      have hu' := hE.und _ _ hu
      split at h
      case h_2 => cases h
      rename_i xs ys
      split at h
      case h_2 => cases h
      rename_i hc
      obtain ⟨hc1, hc2, hc3⟩ := hE.cmp _ hc
      obtain ⟨a', rfl, ha⟩ := hx.agg_inv
      obtain ⟨b', rfl, hb⟩ := hy.agg_inv
      have hf : E.P.fieldsOf t = fs := by simp [Program.fieldsOf, hu']
      rw [run_equalIn_struct (P := E.P) w D t ⟨a'⟩ ⟨b'⟩ (by rw [hf]; exact hu') hc1, hf]
      exact eqFields_ok hE d D (aEq E d) (fun t x y x' y' r h1 h2 h3 => ih D t x y x' y' r (by omega) h1 h2 h3) ha hb fs.toList r (hc3 fs hu') h
    · rename_i e hu
      have hu' := hE.und _ _ hu
      split at h
      · rename_i l1 c1 b l2 c2
        injection h with h; subst h
        rw [(hx.nilslice_inv).2.2]
        cases b with
        | none => rw [(hy.nilslice_inv).2.2]; simp [Op.equalIn, run_underlying hu', isNoneA]
        | some b => obtain ⟨b1, o1, s1⟩ := b; obtain ⟨_, _, _, _, c', e1, _⟩ := hy.slice_inv; rw [e1]; simp [Op.equalIn, run_underlying hu', isNoneA]
      · rename_i a l1 c1 l2 c2
        injection h with h; subst h
        rw [(hy.nilslice_inv).2.2]
        obtain ⟨b1, o1, s1⟩ := a
        obtain ⟨_, _, _, _, c', e1, _⟩ := hx.slice_inv
        rw [e1]; simp [Op.equalIn, run_underlying hu']
      · cases h
    · rename_i k e hu
      have hu' := hE.und _ _ hu
      split at h
      · rename_i b
        injection h with h; subst h
        cases hx
        cases hy <;> simp [Op.equalIn, run_underlying hu', isNoneN]
      · injection h with h; subst h
        cases hx
        cases hy
        simp [Op.equalIn, run_underlying hu']
      · cases h
    · rename_i a1 a2 a3 hu
      have hu' := hE.und _ _ hu
      split at h
      · injection h with h; subst h
        cases hx; cases hy; simp [Op.equalIn, run_underlying hu']
      · injection h with h; subst h
        cases hx; cases hy; simp [Op.equalIn, run_underlying hu']
      · injection h with h; subst h
        cases hx; cases hy; simp [Op.equalIn, run_underlying hu']
      · cases h
    · cases h
noncomputable def isConstO : Operand → Bool
  | .const _ => true
  | _ => false
noncomputable def guardB (E : Env) (t : TypeId) (xo yo : Operand) (x y : Value) : Bool :=
  match x, y with
  | .nilIface, .nilIface => isConstO xo || isConstO yo
  | .agg _, .agg _ => E.cmp t
  | _, _ => true
theorem eqGuard_no {P : Program} {op : BinOp} {t : TypeId} {xo yo : Operand} {x y : Value} (h1 : x = .nilIface → y = .nilIface → (isConstO xo || isConstO yo) = true) (h2 : (∃ a, x = .agg a) → (∃ b, y = .agg b) → P.eqGuardType P.depth t = false) : (eqGuard op t xo yo x y).run P w = .ok () w := by
  have nn : (isConstO xo || isConstO yo) = true → (eqGuard op t xo yo .nilIface .nilIface).run P w = .ok () w := by
    intro hc
    unfold eqGuard
    cases xo <;> cases yo <;> first | (cases hc; done) | (cases op <;> rfl)
  have ag : ∀ a b, P.eqGuardType P.depth t = false → (eqGuard op t xo yo (.agg a) (.agg b)).run P w = .ok () w := by
    intro a b hc
    unfold eqGuard
    cases op <;> simp [hc]
  cases x with
  | nilIface =>
    cases y with
    | nilIface =>
      exact nn (h1 rfl rfl)
    | _ => unfold eqGuard; cases op <;> rfl
  | agg a =>
    cases y with
    | agg b => exact ag a b (h2 ⟨_, rfl⟩ ⟨_, rfl⟩)
    | _ => unfold eqGuard; cases op <;> rfl
  | _ => unfold eqGuard; cases op <;> rfl
theorem guardB_ok (hE : E.OK) {n : Nat} {op : BinOp} {t : TypeId} {xo yo : Operand} {x y x' y' : Value} (hx : VRel γ n x x') (hy : VRel γ n y y') (h : guardB E t xo yo x y = true) : (eqGuard op t xo yo x' y').run E.P w = .ok () w := by
  refine eqGuard_no ?_ ?_
  · intro e1 e2
    subst e1 e2
    cases hx
    cases hy
    exact h
  · rintro ⟨a, rfl⟩ ⟨b, rfl⟩
    cases hx
    cases hy
    exact (hE.cmp _ h).2.1
noncomputable def eqShape : Value → Value → Bool
  | .bool _, .bool _ => true
  | .pointer _, .pointer _ => true
  | .nilIface, .nilIface => true
  | .nilIface, .iface _ _ => true
  | .iface _ _, .nilIface => true
  | .iface _ _, .iface _ _ => true
  | .agg _, .agg _ => true
  | .slice _ _ _, .slice _ _ _ => true
  | .map _, .map _ => true
  | .nilFunc, .nilFunc => true
  | .nilFunc, .func _ _ _ => true
  | .func _ _ _, .nilFunc => true
  | _, _ => false
theorem eqShape_rel {n : Nat} {x y x' y' : Value} (hx : VRel γ n x x') (hy : VRel γ n y y') (h : eqShape x y = true) : eqShape x' y' = true := by
  cases hx <;> cases hy <;> first | rfl | cases h
theorem binOp_eql {P : Program} {t : TypeId} {x y : Value} (h : eqShape x y = true) : binOp .eql t x y = (do pure (.bool (← Op.equal t x y))) ∧ binOp .neq t x y = (do pure (.bool (!(← Op.equal t x y)))) := by
  cases x <;> cases y <;> first | (cases h; done) | exact ⟨rfl, rfl⟩
noncomputable def aBin (E : Env) (op : BinOp) (t : TypeId) (xo yo : Operand) (x y : Value) : Option Value :=
  match x, y with
  | .int k a, .int k' b => match isShift op with
    | true => aShift op k a b
    | false => match kindEq k k' with
      | true => aInt op k a b
      | false => none
  | .string a, .string b => aStr op a b
  | x, y => match guardB E t xo yo x y, eqShape x y, aEq E 30 t x y with
    | true, true, some r => match op with
      | .eql => some (.bool r)
      | .neq => some (.bool (!r))
      | _ => none
    | _, _, _ => none
theorem aBin_ok (hE : E.OK) (h : HRel γ base w0 H w) {op : BinOp} {t : TypeId} {xo yo : Operand} {x y x' y' v : Value} (hx : VRel γ H.next x x') (hy : VRel γ H.next y y') (hl : aBin E op t xo yo x y = some v) :
    VOK E.P base w0 γ H w (do eqGuard op t xo yo x' y'; binOp op t x' y') v H := by
  unfold aBin at hl
  split at hl
  · rename_i k a k' b
    have hg := guardB_ok (w := w) (op := op) (t := t) (xo := xo) (yo := yo) hE hx hy rfl
    rw [hx.int_inv, hy.int_inv] at hg ⊢
    split at hl
    · have hs := aShift_ok (P := E.P) (w := w) (k' := k') t hl
      have hv : ∃ k i, v = .int k i := by
        unfold aShift at hl
        split at hl
        · split at hl <;> (injection hl with hl; exact ⟨_, _, hl.symm⟩)
        · split at hl <;> (injection hl with hl; exact ⟨_, _, hl.symm⟩)
        · cases hl
      obtain ⟨k2, i2, rfl⟩ := hv
      refine VOK.same h (v' := .int k2 i2) ?_ (.int _ _)
      simp only [Sem.run_bind, hg, Result.andThen_ok, hs]
    · rename_i hsh
      split at hl
      case h_2 => cases hl
      rename_i hk
      have := kindEq_eq hk
      subst this
      have hs := aInt_ok (P := E.P) (w := w) t hsh hl
      have hv : VRel γ H.next v v := by
        unfold aInt at hl
        split at hl
        case h_4 => split at hl <;> first | (cases hl; done) | (injection hl with hl; subst hl; exact .int _ _)
        case h_5 => split at hl <;> first | (cases hl; done) | (injection hl with hl; subst hl; exact .int _ _)
        case h_16 => cases hl
        all_goals (injection hl with hl; subst hl; first | exact .int _ _ | exact .bool _)
      refine VOK.same h (v' := v) ?_ hv
      simp only [Sem.run_bind, hg, Result.andThen_ok, hs]
  · rename_i a b
    have hg := guardB_ok (w := w) (op := op) (t := t) (xo := xo) (yo := yo) hE hx hy rfl
    rw [hx.string_inv, hy.string_inv] at hg ⊢
    have hs := aStr_ok (P := E.P) (w := w) t hl
    have hv : VRel γ H.next v v := by
      unfold aStr at hl
      split at hl
      case h_1 => split at hl <;> first | (cases hl; done) | (injection hl with hl; subst hl; exact .string _)
      case h_8 => cases hl
      all_goals (injection hl with hl; subst hl; exact .bool _)
    refine VOK.same h (v' := v) ?_ hv
    simp only [Sem.run_bind, hg, Result.andThen_ok, hs]
  · split at hl
    case h_2 => cases hl
    rename_i r hgd hsh heq
    have hg := guardB_ok (w := w) (op := op) hE hx hy hgd
    have hsh' := eqShape_rel hx hy hsh
    have he := aEq_ok (w := w) hE 30 Op.maxDepth t _ _ _ _ r (by decide) hx hy heq
    split at hl
    · injection hl with hl; subst hl
      refine VOK.same h (v' := .bool r) ?_ (.bool _)
      rw [(binOp_eql (P := E.P) hsh').1]
      simp only [Sem.run_bind, hg, Result.andThen_ok, Op.equal, he, Sem.run_pure]
    · injection hl with hl; subst hl
      refine VOK.same h (v' := .bool (!r)) ?_ (.bool _)
      rw [(binOp_eql (P := E.P) hsh').2]
      simp only [Sem.run_bind, hg, Result.andThen_ok, Op.equal, he, Sem.run_pure]
    · cases hl
end
end Go.Proofs.YtohgenhjdgdkgaaGreatDoor.Sh
