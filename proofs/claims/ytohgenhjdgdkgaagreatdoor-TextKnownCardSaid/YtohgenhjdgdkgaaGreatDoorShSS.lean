import Derived.Test.YtohgenhjdgdkgaaGreatDoorShSR
namespace Go.Proofs.YtohgenhjdgdkgaaGreatDoor.Sh
open Go.RowKit
set_option linter.unusedVariables false
set_option linter.unusedSimpArgs false

/-! ### code -/
noncomputable def blkX (id : Nat) (kn : KN) (kx : KX) (e : Ex) (tm : F Value) (fx : Fx) (H : AH) : Bool :=
  Ex.rec (motive := fun _ => Bool) (kx .normal tm fx H) (fun id' => Bool.rec (motive := fun _ => Bool) (kx (.exit id') tm fx H) (kn tm fx H) (Nat.beq id' id)) (kx .ret tm fx H) (fun v => kx (.panic v) tm fx H) (fun l => kx (.goto l) tm fx H) e
noncomputable def scpX (nt : Nat) (c : Code) (ih : IH) (kn : KN) (kx : KX) (e : Ex) (tm : F Value) (fx : Fx) (H : AH) : Bool :=
  Ex.rec (motive := fun _ => Bool) (kx .normal tm fx H) (fun id => kx (.exit id) tm fx H) (kx .ret tm fx H) (fun v => kx (.panic v) tm fx H) (fun l => Option.rec (motive := fun _ => Bool) (kx (.goto l) tm fx H) (fun r => ih.inSc nt c r tm fx H kn kx) (findLabel c l)) e
/-- Behind the function that was ranged over. -/
noncomputable def backK (l : Nat) (fr1 : Fr) (kn : KN) (kx : KX) (r : CR) (H : AH) (rc : Bool) : Bool :=
  match r, rc with
  | .ret _, false => outK (closeLoop l fr1 H) kn kx
  | .pan v, false => kx (.panic v) fr1.tm (fxOf fr1) H
  | _, _ => false
noncomputable def rangeK (E : FEnv) (nt : Nat) (ps : Array Tmp) (x y : Code) (ih : IH) (v : Value) (tm : F Value) (fx : Fx) (H : AH) (kn : KN) (kx : KX) : Bool :=
  match v with
  | .func (.func g) ⟨a⟩ ⟨b⟩ => match openLoop (fx.fr nt tm) H ps x y with
    | some (l, fr1, H1) => match aEnter E g (a ++ [.func (.yield l) ⟨[]⟩ ⟨[]⟩] ++ b) H1 with
      | some _ => ih.call g (a ++ [.func (.yield l) ⟨[]⟩ ⟨[]⟩] ++ b) H1 none (backK l fr1 kn kx)
      | none => false
    | none => false
  | _ => false
theorem rangeK_spec {E : FEnv} {ih : IH} {r : Task → Option TOut} (hr : Rep ih r) (nt : Nat) (f : Operand) (ps : Array Tmp) (x y : Code) (tm : F Value) (fx : Fx) (H : AH) (kn : KN) (kx : KX) :
    ((rd f).f tm H fun v => rangeK E nt ps x y ih v tm fx H kn kx) = outK (runRange E r f ps x y (fx.fr nt tm) H) kn kx := by
  rw [rd_spec]
  unfold runRange
  show (match evF tm H.g0 f with | some v => rangeK E nt ps x y ih v tm fx H kn kx | none => false) = outK (match evF tm H.g0 f with
    | some (.func (.func g) ⟨a⟩ ⟨b⟩) => match openLoop (fx.fr nt tm) H ps x y with
      | some (l, fr1, H1) => match aEnter E g (a ++ [.func (.yield l) ⟨[]⟩ ⟨[]⟩] ++ b) H1 with
        | some _ => match r (.call g (a ++ [.func (.yield l) ⟨[]⟩ ⟨[]⟩] ++ b) H1 none) with
          | some (.fin (.ret _) H2 false) => closeLoop l fr1 H2
          | some (.fin (.pan v) H2 false) => some (.out (.panic v) fr1 H2)
          | _ => none
        | none => none
      | none => none
    | _ => none) kn kx
  cases evF tm H.g0 f with
  | none => rfl
  | some v =>
    cases v with
    | func fn a b =>
      obtain ⟨a⟩ := a
      obtain ⟨b⟩ := b
      cases fn with
      | func g =>
        show (match openLoop (fx.fr nt tm) H ps x y with
          | some (l, fr1, H1) => match aEnter E g (a ++ [Value.func (.yield l) ⟨[]⟩ ⟨[]⟩] ++ b) H1 with
            | some _ => ih.call g (a ++ [Value.func (.yield l) ⟨[]⟩ ⟨[]⟩] ++ b) H1 none (backK l fr1 kn kx)
            | none => false
          | none => false) = _
        simp only
        rcases openLoop (fx.fr nt tm) H ps x y with _ | ⟨l, fr1, H1⟩
        · rfl
        simp only
        generalize (a ++ [Value.func (.yield l) ⟨[]⟩ ⟨[]⟩] ++ b) = args
        cases aEnter E g args H1 with
        | none => rfl
        | some an =>
          simp only
          rw [hr.call]
          rcases r (.call g args H1 none) with _ | o
          · rfl
          cases o with
          | out e fr H => rfl
          | fin c H2 rc => cases c <;> cases rc <;> rfl
      | _ => rfl
    | _ => rfl
noncomputable def cC (E : FEnv) (nt : Nat) (c : Code) : Box CC :=
  Code.rec (motive := fun _ => Box CC)
    ⟨fun ih tm fx H kn kx => kn tm fx H⟩
    (fun _ ops draw => Bool.rec (motive := fun _ => Box CC) (cOps E nt ops.toList ops.toList) (cD E nt ops.toList) draw)
    (fun _ _ A B => Box.rec (motive := fun _ => Box CC) (fun fa => Box.rec (motive := fun _ => Box CC) (fun fb => ⟨fun ih tm fx H kn kx => fa ih tm fx H (fun tm fx H => fb ih tm fx H kn kx) kx⟩) B) A)
    (fun x _ _ A B => Box.rec (motive := fun _ => Box CC) (fun r => Box.rec (motive := fun _ => Box CC) (fun fa => Box.rec (motive := fun _ => Box CC) (fun fb => ⟨fun ih tm fx H kn kx => r tm H fun v => selV v (fa ih tm fx H kn kx) (fb ih tm fx H kn kx) false⟩) B) A) (rd x))
    (fun id _ A => Box.rec (motive := fun _ => Box CC) (fun fa => ⟨fun ih tm fx H kn kx => fa ih tm fx H kn (blkX id kn kx)⟩) A)
    (fun c A => Box.rec (motive := fun _ => Box CC) (fun fa => ⟨fun ih tm fx H kn kx => fa ih tm fx H (fun tm fx H => ih.again nt c tm fx H kn kx) kx⟩) A)
    (fun f ps x y _ _ => Box.rec (motive := fun _ => Box CC) (fun r => ⟨fun ih tm fx H kn kx => r tm H fun v => rangeK E nt ps x y ih v tm fx H kn kx⟩) (rd f))
    (fun id => ⟨fun ih tm fx H kn kx => kx (.exit id) tm fx H⟩)
    (fun c A => Box.rec (motive := fun _ => Box CC) (fun fa => ⟨fun ih tm fx H kn kx => fa ih tm fx H kn (scpX nt c ih kn kx)⟩) A)
    (fun _ => ⟨fun ih tm fx H kn kx => kn tm fx H⟩)
    (fun l => ⟨fun ih tm fx H kn kx => kx (.goto l) tm fx H⟩)
    ⟨fun ih tm fx H kn kx => kx .ret tm fx H⟩
    (fun _ => noC) c
theorem outK_fr (e : Ex) (fr : Fr) (H : AH) (kn : KN) (kx : KX) (he : e ≠ .normal) : outK (some (.out e fr H)) kn kx = kx e fr.tm (fxOf fr) H := by
  cases e <;> first | rfl | exact absurd rfl he
theorem frOf {nt : Nat} (fr : Fr) (h : fr.nt = nt) : (fxOf fr).fr nt fr.tm = fr := by
  obtain ⟨tm, n, df, pk, rc, rnd⟩ := fr
  subst h; rfl
section
variable {E : FEnv} {ih : IH} {r : Task → Option TOut}
/-- What stands in for 'nothing but code': an evaluator never says 'fin' for code. -/
noncomputable def noFin (r : Task → Option TOut) : Prop := (∀ c fr H x H' b, r (.again c fr H) ≠ some (.fin x H' b)) ∧ ∀ c y fr H x H' b, r (.inSc c y fr H) ≠ some (.fin x H' b)
theorem runScope_noFin {r : Task → Option TOut} (hf : noFin r) {c : Code} {q : Option TOut} (hq : ∀ x H' b, q ≠ some (.fin x H' b)) (x : CR) (H' : AH) (b : Bool) : runScope r c q ≠ some (.fin x H' b) := by
  intro h
  unfold runScope at h
  split at h
  · split at h
    · exact hf.2 _ _ _ _ _ _ _ h
    · injection h with h; cases h
  · exact hq _ _ _ h
theorem evC_noFin (hf : noFin r) : ∀ (c : Code) (fr : Fr) (H : AH) (x : CR) (H' : AH) (b : Bool), evC E (drawnE E) r c fr H ≠ some (.fin x H' b) := by
  intro c
  induction c with
  | skip => intro fr H x H' b h; injection h with h; cases h
  | label l => intro fr H x H' b h; injection h with h; cases h
  | region id ops draw =>
    intro fr H x H' b h
    have hof : ∀ (y : Option (Ex × Fr × AH)), ofOps y ≠ some (.fin x H' b) := by
      intro y h
      rcases y with _ | ⟨a, b, c⟩
      · cases h
      · unfold ofOps at h; injection h with h; cases h
    cases draw with
    | false => exact hof _ h
    | true => exact hof _ h
  | seq a c iha ihc =>
    intro fr H x H' b h
    unfold evC at h
    split at h
    · exact ihc _ _ _ _ _ h
    · injection h with h; cases h
    · cases h
  | cond y a c iha ihc =>
    intro fr H x H' b h
    unfold evC at h
    split at h
    · exact iha _ _ _ _ _ h
    · exact ihc _ _ _ _ _ h
    · cases h
  | block id c ihc =>
    intro fr H x H' b h
    unfold evC at h
    split at h
    · split at h <;> (injection h with h; cases h)
    · injection h with h; cases h
    · cases h
  | loop c ihc =>
    intro fr H x H' b h
    unfold evC at h
    split at h
    · exact hf.1 _ _ _ _ _ _ h
    · injection h with h; cases h
    · cases h
  | scope c ihc => intro fr H x H' b h; exact runScope_noFin hf (fun x H' b q => ihc _ _ _ _ _ q) _ _ _ h
  | exit id => intro fr H x H' b h; injection h with h; cases h
  | ret => intro fr H x H' b h; injection h with h; cases h
  | rangeFunc f ps u v _ _ =>
    intro fr H x H' b h
    exact runRange_out (E := E) (rec := r) (drawn := drawnE E) (f := f) (ps := ps) (x := u) (y := v) (fr := fr) (H := H) h
  | goto l => intro fr H x H' b h; injection h with h; cases h
  | refuse why => intro fr H x H' b h; cases h
noncomputable def seqO (o : Option TOut) (g : Fr → AH → Option TOut) : Option TOut :=
  match o with
  | some (.out .normal fr H) => g fr H
  | some (.out e fr H) => some (.out e fr H)
  | _ => none
theorem outK_seq (hr : Rep ih r) (nt : Nat) (o : Option TOut) (ho : ∀ e fr' H', o = some (.out e fr' H') → fr'.nt = nt) (f : F Value → Fx → AH → Bool) (g : Fr → AH → Option TOut) (kn : KN) (kx : KX) (hfg : ∀ tm fx H, f tm fx H = outK (g (fx.fr nt tm) H) kn kx) :
    outK o f kx = outK (seqO o g) kn kx := by
  rcases o with _ | o
  · rfl
  cases o with
  | fin x H b => rfl
  | out e fr H =>
    cases e with
    | normal =>
      show f fr.tm (fxOf fr) H = outK (g fr H) kn kx
      rw [hfg, frOf fr (ho _ _ _ rfl)]
    | exit id => rfl
    | ret => rfl
    | panic v => rfl
    | goto l => rfl
theorem scp_spec (hr : Rep ih r) (nt : Nat) (c : Code) (q : Option TOut) (hq : ∀ e fr' H', q = some (.out e fr' H') → fr'.nt = nt) (kn : KN) (kx : KX) : outK q kn (scpX nt c ih kn kx) = outK (runScope r c q) kn kx := by
  rcases q with _ | o
  · rfl
  cases o with
  | fin x H b => rfl
  | out e fr H =>
    cases e with
    | goto l =>
      show Option.rec (motive := fun _ => Bool) (kx (.goto l) fr.tm (fxOf fr) H) (fun x => ih.inSc nt c x fr.tm (fxOf fr) H kn kx) (findLabel c l) = outK (match findLabel c l with | some x => r (.inSc c x fr H) | none => some (.out (.goto l) fr H)) kn kx
      cases findLabel c l with
      | none => rfl
      | some x =>
        show ih.inSc nt c x fr.tm (fxOf fr) H kn kx = _
        rw [hr.inSc, frOf fr (hq _ _ _ rfl)]
    | _ => rfl
theorem cC_spec (hr : Rep ih r) (nt : Nat) : ∀ (c : Code) (tm : F Value) (fx : Fx) (H : AH) (kn : KN) (kx : KX), (cC E nt c).f ih tm fx H kn kx = outK (evC E (drawnE E) r c (fx.fr nt tm) H) kn kx := by
  have hnt : ∀ (c : Code) (tm : F Value) (fx : Fx) (H : AH) (e : Ex) (fr' : Fr) (H' : AH), evC E (drawnE E) r c (fx.fr nt tm) H = some (.out e fr' H') → fr'.nt = nt := fun c tm fx H e fr' H' h => evC_nt hr.nt c _ _ _ _ _ h
  intro c
  induction c with
  | skip => intro tm fx H kn kx; rfl
  | label l => intro tm fx H kn kx; rfl
  | region id ops draw =>
    intro tm fx H kn kx
    cases draw with
    | false => exact cOps_spec hr nt _ _ _ _ _ _ _
    | true => exact cD_spec hr nt _ _ _ _ _ _
  | seq a b iha ihb =>
    intro tm fx H kn kx
    show (cC E nt a).f ih tm fx H (fun tm fx H => (cC E nt b).f ih tm fx H kn kx) kx = _
    rw [iha]
    exact outK_seq hr nt _ (hnt a tm fx H) _ (evC E (drawnE E) r b) kn kx (fun tm fx H => ihb tm fx H kn kx)
  | cond x a b iha ihb =>
    intro tm fx H kn kx
    show ((rd x).f tm H fun v => selV v ((cC E nt a).f ih tm fx H kn kx) ((cC E nt b).f ih tm fx H kn kx) false) = _
    rw [rd_spec, iha, ihb]
    conv => rhs; unfold evC
    show _ = outK (match evF tm H.g0 x with
      | some (.bool true) => evC E (drawnE E) r a (fx.fr nt tm) H
      | some (.bool false) => evC E (drawnE E) r b (fx.fr nt tm) H
      | _ => none) kn kx
    cases evF tm H.g0 x with
    | none => rfl
    | some v =>
      cases v with
      | bool b => cases b <;> rfl
      | _ => rfl
  | block id c ihc =>
    intro tm fx H kn kx
    show (cC E nt c).f ih tm fx H kn (blkX id kn kx) = _
    rw [ihc]
    conv => rhs; unfold evC
    rcases evC E (drawnE E) r c (fx.fr nt tm) H with _ | o
    · rfl
    cases o with
    | fin x H b => rfl
    | out e fr H1 =>
      cases e with
      | normal => rfl
      | exit id' =>
        show Bool.rec (motive := fun _ => Bool) (kx (.exit id') fr.tm (fxOf fr) H1) (kn fr.tm (fxOf fr) H1) (Nat.beq id' id) = outK (match Nat.beq id' id with | true => some (.out .normal fr H1) | false => some (.out (.exit id') fr H1)) kn kx
        cases Nat.beq id' id <;> rfl
      | ret => rfl
      | panic v => rfl
      | goto l => rfl
  | loop c ihc =>
    intro tm fx H kn kx
    show (cC E nt c).f ih tm fx H (fun tm fx H => ih.again nt c tm fx H kn kx) kx = _
    rw [ihc]
    exact outK_seq hr nt _ (hnt c tm fx H) _ (fun fr H => r (.again c fr H)) kn kx (fun tm fx H => hr.again nt c tm fx H kn kx)
  | scope c ihc =>
    intro tm fx H kn kx
    show (cC E nt c).f ih tm fx H kn (scpX nt c ih kn kx) = _
    rw [ihc]
    exact scp_spec hr nt c _ (hnt c tm fx H) kn kx
  | exit id => intro tm fx H kn kx; rfl
  | ret => intro tm fx H kn kx; rfl
  | rangeFunc f ps u v _ _ => intro tm fx H kn kx; exact rangeK_spec hr nt f ps u v tm fx H kn kx
  | goto l => intro tm fx H kn kx; rfl
  | refuse why => intro tm fx H kn kx; rfl
end
/-! ### results, calls -/
noncomputable def isUndefF : Value → Bool → Bool → Bool :=
  @Value.rec (fun _ => Bool → Bool → Bool) (fun _ => Bool → Bool → Bool) (fun _ => Bool → Bool → Bool)
    (fun _ t e => e) (fun _ _ t e => e) (fun _ _ t e => e) (fun _ _ _ t e => e) (fun _ t e => e) (fun _ t e => e) (fun _ _ _ t e => e) (fun _ t e => e) (fun _ t e => e)
    (fun _ _ _ _ _ t e => e) (fun t e => e) (fun _ _ _ t e => e) (fun t e => e) (fun _ _ t e => e) (fun _ I t e => I t e) (fun _ I => I) (fun t e => t) (fun _ _ _ _ t e => e)
theorem isUndefF_eq (v : Value) (t e : Bool) : isUndefF v t e = match isUndef v with | true => t | false => e := by
  cases v with
  | tuple vs =>
    obtain ⟨l⟩ := vs
    cases l <;> rfl
  | _ => rfl
noncomputable def noUK (v : Value) (k : Value → Bool) : Bool := isUndefF v false (k v)
theorem noUK_eq (v : Value) (k : Value → Bool) : noUK v k = match noUndef v with | some v => k v | none => false := by
  unfold noUK noUndef
  rw [isUndefF_eq]
  cases isUndef v <;> rfl
noncomputable def resK (E : FEnv) (l : List ResultVar) : Box RDL :=
  List.rec (motive := fun _ => Box RDL) ⟨fun tm H k => k []⟩ (fun r _ R => Box.rec (motive := fun _ => Box RDL) (fun rs => match r with
    | .tmp t => Box.rec (motive := fun _ => Box RDL) (fun g => ⟨fun tm H k => noUK (g undef tm) fun v => rs tm H fun l => k (v :: l)⟩) (fgB t)
    | .cell a t => Box.rec (motive := fun _ => Box RDL) (fun g => ⟨fun tm H k => noUK (g undef tm) fun p => Option.rec (motive := fun _ => Bool) false (fun v => rs tm H fun l => k (v :: l)) (aLoad E.toEnv t p H)⟩) (fgB a)) R) l
theorem resK_spec (E : FEnv) (l : List ResultVar) (tm : F Value) (H : AH) : ∀ (k : List Value → Bool), (resK E l).f tm H k = match aRes E tm H l with | some v => k v | none => false := by
  induction l with
  | nil => intro k; rfl
  | cons r l ih =>
    intro k
    cases r with
    | tmp t =>
      show (noUK (tm.get undef t) fun v => (resK E l).f tm H fun l => k (v :: l)) = _
      rw [noUK_eq]
      unfold aRes
      simp only
      cases noUndef (tm.get undef t) with
      | none => rfl
      | some v =>
        simp only [ih]
        cases aRes E tm H l <;> rfl
    | cell a t =>
      show (noUK (tm.get undef a) fun p => Option.rec (motive := fun _ => Bool) false (fun v => (resK E l).f tm H fun l => k (v :: l)) (aLoad E.toEnv t p H)) = _
      rw [noUK_eq]
      unfold aRes
      simp only
      cases noUndef (tm.get undef a) with
      | none => rfl
      | some p =>
        simp only
        cases aLoad E.toEnv t p H with
        | none => rfl
        | some v =>
          simp only [ih]
          cases aRes E tm H l <;> rfl
noncomputable def resF (l : List Value) : Value := List.rec (motive := fun _ => Value) (.tuple ⟨[]⟩) (fun v r _ => List.rec (motive := fun _ => Value) v (fun w s _ => .tuple ⟨v :: w :: s⟩) r) l
theorem resF_eq (l : List Value) : resF l = resOf l := by
  rcases l with _ | ⟨v, _ | ⟨w, s⟩⟩ <;> rfl
/-- A frame is left. -/
noncomputable def uwK (E : FEnv) (ih : IH) (m : Option Value) (fn : Func) (nt : Nat) (res : RDL) (tm : F Value) (fx : Fx) (H : AH) (k : KF) : Bool :=
  List.rec (motive := fun _ => Bool)
    (Option.rec (motive := fun _ => Bool) (res tm H fun vs => k (.ret (resF vs)) H fx.rc) (fun v => k (.pan v) H fx.rc) m)
    (fun d ds _ => match d with
      | .mark g => match H.obj g with
        | .dfr => ih.unw m fn nt tm { fx with df := ds } (H.drop1 g) k
        | _ => false
      | .call f a c => match aEnter E f (a ++ c) H with
        | none => false
        | some _ => ih.call f (a ++ c) H m fun r H rc => match r with
          | .ret _ => match rc with
            | true => ih.unw none fn nt tm { fx with df := ds } H k
            | false => ih.unw m fn nt tm { fx with df := ds } H k
          | .pan v => match m with
            | none => ih.unw (some v) fn nt tm { fx with df := ds } H k
            | some _ => false) fx.df
theorem uwK_spec {E : FEnv} {ih : IH} {r : Task → Option TOut} (hr : Rep ih r) (m : Option Value) (fn : Func) (nt : Nat) (tm : F Value) (fx : Fx) (H : AH) (k : KF) :
    uwK E ih m fn nt (resK E fn.results.toList).f tm fx H k = finK (evU E r m fn (fx.fr nt tm) H) k := by
  obtain ⟨df, pk, rc, rnd⟩ := fx
  unfold uwK evU unwD
  show _ = finK (match df with
    | [] => match m with
      | some v => some (.fin (.pan v) H rc)
      | none => match aRes E tm H fn.results.toList with
        | some vs => some (.fin (.ret (resOf vs)) H rc)
        | none => none
    | .mark g :: ds => match H.obj g with
      | .dfr => r (.unw m fn (Fx.fr ⟨ds, pk, rc, rnd⟩ nt tm) (H.drop1 g))
      | _ => none
    | .call f a c :: ds => match aEnter E f (a ++ c) H with
     | none => none
     | some _ => match r (.call f (a ++ c) H m) with
      | some (.fin (.ret _) H rc') => match rc' with
        | true => r (.unw none fn (Fx.fr ⟨ds, pk, rc, rnd⟩ nt tm) H)
        | false => r (.unw m fn (Fx.fr ⟨ds, pk, rc, rnd⟩ nt tm) H)
      | some (.fin (.pan v) H rc') => match m with
        | none => r (.unw (some v) fn (Fx.fr ⟨ds, pk, rc, rnd⟩ nt tm) H)
        | some _ => none
      | _ => none) k
  cases df with
  | nil =>
    cases m with
    | some v => rfl
    | none =>
      show ((resK E fn.results.toList).f tm H fun vs => k (.ret (resF vs)) H rc) = _
      rw [resK_spec]
      simp only
      cases aRes E tm H fn.results.toList with
      | none => rfl
      | some vs => simp only [resF_eq]; rfl
  | cons d ds =>
    cases d with
    | mark g =>
      simp only
      cases H.obj g <;> first | exact hr.unw _ _ _ _ _ _ _ | rfl
    | call f ar ca =>
    simp only
    cases aEnter E f (ar ++ ca) H with
    | none => rfl
    | some x =>
      simp only
      rw [hr.call]
      rcases r (.call f (ar ++ ca) H m) with _ | o
      · rfl
      cases o with
      | out e fr H => rfl
      | fin c H1 rc1 =>
        cases c with
        | ret v =>
          cases rc1 with
          | true => exact hr.unw _ _ _ _ _ _ _
          | false => exact hr.unw _ _ _ _ _ _ _
        | pan v =>
          cases m with
          | none => exact hr.unw _ _ _ _ _ _ _
          | some u => rfl
noncomputable def tmF (l : List Value) : Nat → F Value → F Value := List.rec (motive := fun _ => Nat → F Value → F Value) (fun _ t => t) (fun v _ I i t => I (Nat.succ i) ((fsB i).f t v)) l
theorem tmF_eq : ∀ (l : List Value) (i : Nat) (t : F Value), tmF l i t = tmOf l i t := by
  intro l
  induction l with
  | nil => intro i t; rfl
  | cons v l ih => intro i t; exact ih _ _
noncomputable def lenF (l : List Value) : Nat := List.rec (motive := fun _ => Nat) 0 (fun _ _ n => Nat.succ n) l
theorem lenF_eq (l : List Value) : lenF l = l.length := by
  induction l with
  | nil => rfl
  | cons v l ih => exact congrArg Nat.succ ih
noncomputable abbrev CK := IH → List Value → AH → Option Value → KF → Bool
noncomputable def retX (E : FEnv) (ih : IH) (fn : Func) (nt : Nat) (res : RDL) (k : KF) (e : Ex) (tm : F Value) (fx : Fx) (H : AH) : Bool :=
  Ex.rec (motive := fun _ => Bool) false (fun _ => false) (uwK E ih none fn nt res tm fx H k) (fun v => uwK E ih (some v) fn nt res tm fx H k) (fun _ => false) e
noncomputable def cK (E : FEnv) (f : FuncId) : Box CK :=
  match E.fn f with
  | some fn => match fn.body with
    | some c => Box.rec (motive := fun _ => Box CK) (fun g => Box.rec (motive := fun _ => Box CK) (fun res => ⟨fun ih args H pk k => Bool.rec (motive := fun _ => Bool) false (g ih (tmF args 0 .lf) ⟨[], pk, false, none⟩ H (fun tm fx H => uwK E ih none fn fn.ntmps res tm fx H k) (retX E ih fn fn.ntmps res k)) (Nat.ble (lenF args) fn.ntmps)⟩) (resK E fn.results.toList)) (cC E fn.ntmps c)
    | none => ⟨fun _ _ _ _ _ => false⟩
  | none => ⟨fun _ _ _ _ _ => false⟩
noncomputable def endK (l : Nat) (k : KF) (e : Ex) (_ : F Value) (fx : Fx) (H : AH) : Bool :=
  match fx.rc, e with
  | false, .normal => finK (endRnd l none H) k
  | false, .exit id => finK (endRnd l (some (.exit id)) H) k
  | false, .ret => finK (endRnd l (some .ret) H) k
  | _, _ => false
noncomputable def roundK (E : FEnv) (ih : IH) (l : Nat) (args : List Value) (H : AH) (k : KF) : Bool :=
  match H.obj l with
  | .loop L => match Nat.beq args.length L.ps.size with
    | true => (cC E L.nt L.asg).f ih (putAll L.nt L.ps.toList args L.tm) ⟨[], none, false, some l⟩ H (fun tm1 fx1 H1 => match fx1.rc, H1.obj l with
      | false, .loop L1 => match readyB L1.st with
        | true => (cC E L.nt L.bd).f ih tm1 fx1 (H1.setLoop l { L1 with st := .busy }) (endK l k .normal) (endK l k)
        | false => false
      | _, _ => false) (fun _ _ _ _ => false)
    | false => false
  | _ => false
noncomputable def stepIH (E : FEnv) (ih : IH) : IH :=
  ⟨fun nt c tm fx H kn kx => (cC E nt c).f ih tm fx H (fun tm fx H => ih.again nt c tm fx H kn kx) kx,
   fun f args H pk k => (cK E f).f ih args H pk k,
   fun m fn nt tm fx H k => uwK E ih m fn nt (resK E fn.results.toList).f tm fx H k,
   fun l args H k => roundK E ih l args H k,
   fun nt c r tm fx H kn kx => (cC E nt r).f ih tm fx H kn (scpX nt c ih kn kx)⟩
noncomputable def fX (E : FEnv) (n : Nat) : IH := Nat.rec (motive := fun _ => IH) ⟨fun _ _ _ _ _ _ _ => false, fun _ _ _ _ _ => false, fun _ _ _ _ _ _ _ => false, fun _ _ _ _ => false, fun _ _ _ _ _ _ _ _ => false⟩ (fun _ ih => stepIH E ih) n
section
variable {E : FEnv} {ih : IH} {r : Task → Option TOut}
theorem cK_spec (hr : Rep ih r) (hf : noFin r) (f : FuncId) (args : List Value) (H : AH) (pk : Option Value) (k : KF) : (cK E f).f ih args H pk k = finK (evK E (drawnE E) r f args H pk) k := by
  unfold cK evK
  cases E.fn f with
  | none => rfl
  | some fn =>
    simp only
    cases fn.body with
    | none => rfl
    | some c =>
      simp only
      show Bool.rec (motive := fun _ => Bool) false ((cC E fn.ntmps c).f ih (tmF args 0 .lf) ⟨[], pk, false, none⟩ H (fun tm fx H => uwK E ih none fn fn.ntmps (resK E fn.results.toList).f tm fx H k) (retX E ih fn fn.ntmps (resK E fn.results.toList).f k)) (Nat.ble (lenF args) fn.ntmps) = _
      rw [lenF_eq]
      cases Nat.ble args.length fn.ntmps with
      | false => rfl
      | true =>
        simp only
        rw [cC_spec hr, tmF_eq]
        have hfr : Fx.fr ⟨[], pk, false, none⟩ fn.ntmps (tmOf args 0 .lf) = ⟨tmOf args 0 .lf, fn.ntmps, [], pk, false, none⟩ := rfl
        rw [hfr]
        have hn := fun e fr' H' h => evC_nt (E := E) hr.nt c ⟨tmOf args 0 .lf, fn.ntmps, [], pk, false, none⟩ H e fr' H' h
        rcases hq : evC E (drawnE E) r c ⟨tmOf args 0 .lf, fn.ntmps, [], pk, false, none⟩ H with _ | o
        · rfl
        cases o with
        | fin x H b => rfl
        | out e fr H1 =>
          have hnt := hn _ _ _ hq
          cases e with
          | normal =>
            show uwK E ih none fn fn.ntmps (resK E fn.results.toList).f fr.tm (fxOf fr) H1 k = _
            rw [uwK_spec hr, frOf fr hnt]
          | exit id => rfl
          | goto l => rfl
          | ret =>
            show uwK E ih none fn fn.ntmps (resK E fn.results.toList).f fr.tm (fxOf fr) H1 k = _
            rw [uwK_spec hr, frOf fr hnt]
          | panic v =>
            show uwK E ih (some v) fn fn.ntmps (resK E fn.results.toList).f fr.tm (fxOf fr) H1 k = _
            rw [uwK_spec hr, frOf fr hnt]
theorem roundK_spec (hr : Rep ih r) (l : Nat) (args : List Value) (H : AH) (k : KF) : roundK E ih l args H k = finK (evR E (drawnE E) r l args H) k := by
  unfold roundK evR
  cases H.obj l with
  | loop L =>
    simp only
    cases Nat.beq args.length L.ps.size with
    | false => rfl
    | true =>
      simp only
      rw [cC_spec hr]
      rw [show Fx.fr ⟨[], none, false, some l⟩ L.nt (putAll L.nt L.ps.toList args L.tm) = ⟨putAll L.nt L.ps.toList args L.tm, L.nt, [], none, false, some l⟩ from rfl]
      rcases hq : evC E (drawnE E) r L.asg ⟨putAll L.nt L.ps.toList args L.tm, L.nt, [], none, false, some l⟩ H with _ | o
      · rfl
      cases o with
      | fin x H1 b => rfl
      | out e fr1 H1 =>
        have hnt := evC_nt (E := E) hr.nt _ _ _ _ _ _ hq
        cases e with
        | exit id => rfl
        | ret => rfl
        | panic v => rfl
        | goto l => rfl
        | normal =>
          show (match fr1.rc, H1.obj l with
            | false, .loop L1 => match readyB L1.st with
              | true => (cC E L.nt L.bd).f ih fr1.tm (fxOf fr1) (H1.setLoop l { L1 with st := .busy }) (endK l k .normal) (endK l k)
              | false => false
            | _, _ => false) = finK (match fr1.rc, H1.obj l with
            | false, .loop L1 => match readyB L1.st with
              | true => match evC E (drawnE E) r L.bd fr1 (H1.setLoop l { L1 with st := .busy }) with
                | some (.out e fr2 H2) => match fr2.rc, e with
                  | false, .normal => endRnd l none H2
                  | false, .exit id => endRnd l (some (.exit id)) H2
                  | false, .ret => endRnd l (some .ret) H2
                  | _, _ => none
                | _ => none
              | false => none
            | _, _ => none) k
          cases fr1.rc with
          | true => cases H1.obj l <;> rfl
          | false =>
            cases H1.obj l with
            | loop L1 =>
              simp only
              cases readyB L1.st with
              | false => rfl
              | true =>
                simp only
                rw [cC_spec hr, frOf fr1 hnt]
                rcases evC E (drawnE E) r L.bd fr1 (H1.setLoop l { L1 with st := .busy }) with _ | o
                · rfl
                cases o with
                | fin x H2 b => rfl
                | out e fr2 H2 =>
                  have he : outK (some (.out e fr2 H2)) (endK l k .normal) (endK l k) = endK l k e fr2.tm (fxOf fr2) H2 := by cases e <;> rfl
                  rw [he]
                  clear he hq
                  unfold endK fxOf
                  show (match fr2.rc, e with
                    | false, .normal => finK (endRnd l none H2) k
                    | false, .exit id => finK (endRnd l (some (.exit id)) H2) k
                    | false, .ret => finK (endRnd l (some .ret) H2) k
                    | _, _ => false) = finK (match fr2.rc, e with
                    | false, .normal => endRnd l none H2
                    | false, .exit id => endRnd l (some (.exit id)) H2
                    | false, .ret => endRnd l (some .ret) H2
                    | _, _ => none) k
                  generalize fr2.rc = q
                  cases q <;> cases e <;> rfl
            | _ => rfl
  | _ => rfl
theorem step_rep (hr : Rep ih r) (hf : noFin r) : Rep (stepIH E ih) (body2 E (drawnE E) r) ∧ noFin (body2 E (drawnE E) r) := by
  refine ⟨⟨?_, ?_, ?_, ?_, ?_, ?_, ?_⟩, ?_, ?_⟩
  · intro nt c tm fx H kn kx
    show (cC E nt c).f ih tm fx H (fun tm fx H => ih.again nt c tm fx H kn kx) kx = outK (evA E (drawnE E) r c (fx.fr nt tm) H) kn kx
    rw [cC_spec hr]
    exact outK_seq hr nt _ (fun e fr' H' h => evC_nt hr.nt c (fx.fr nt tm) _ _ _ _ h) _ (fun fr H => r (.again c fr H)) kn kx (fun tm fx H => hr.again nt c tm fx H kn kx)
  · intro f args H pk k; exact cK_spec hr hf f args H pk k
  · intro m fn nt tm fx H k; exact uwK_spec hr m fn nt tm fx H k
  · intro l args H k; exact roundK_spec hr l args H k
  · intro nt c x tm fx H kn kx
    show (cC E nt x).f ih tm fx H kn (scpX nt c ih kn kx) = outK (runScope r c (evC E (drawnE E) r x (fx.fr nt tm) H)) kn kx
    rw [cC_spec hr]
    exact scp_spec hr nt c _ (fun e fr' H' h => evC_nt hr.nt x (fx.fr nt tm) _ _ _ _ h) kn kx
  · intro c fr H e fr' H' h
    have h' : evA E (drawnE E) r c fr H = some (.out e fr' H') := h
    unfold evA at h'
    split at h'
    · rename_i fr1 H1 hq; exact (hr.nt.1 _ _ _ _ _ _ h').trans (evC_nt hr.nt _ _ _ _ _ _ hq)
    · rename_i e1 fr1 H1 hne hq; injection h' with h'; injection h' with _ h' _; rw [← h']; exact evC_nt hr.nt _ _ _ _ _ _ hq
    · cases h'
  · intro c x fr H e fr' H' h; exact runScope_nt hr.nt h (fun e fr' H' q => evC_nt hr.nt _ _ _ _ _ _ q)
  · intro c fr H x H' b h
    have h' : evA E (drawnE E) r c fr H = some (.fin x H' b) := h
    unfold evA at h'
    split at h'
    · exact hf.1 _ _ _ _ _ _ h'
    · injection h' with h'; cases h'
    · cases h'
  · intro c y fr H x H' b h
    exact runScope_noFin hf (fun x H' b q => evC_noFin hf _ _ _ _ _ _ q) _ _ _ h
theorem fX_rep : ∀ n, Rep (fX E n) (ev2 E (drawnE E) n) ∧ noFin (ev2 E (drawnE E) n) := by
  intro n
  induction n with
  | zero => exact ⟨⟨fun _ _ _ _ _ _ _ => rfl, fun _ _ _ _ _ => rfl, fun _ _ _ _ _ _ _ => rfl, fun _ _ _ _ => rfl, fun _ _ _ _ _ _ _ _ => rfl, ⟨fun _ _ _ _ _ _ h => (by cases h), fun _ _ _ _ _ _ _ h => (by cases h)⟩⟩, ⟨fun _ _ _ _ _ _ h => (by cases h), fun _ _ _ _ _ _ _ h => (by cases h)⟩⟩
  | succ n ih => exact step_rep ih.1 ih.2
end
/-- What the run says. -/
noncomputable def yes (r : CR) (H : AH) (rc : Bool) : Bool := CR.rec (motive := fun _ => Bool) (fun v => Bool.rec (motive := fun _ => Bool) (selV v true false false) false rc) (fun _ => false) r
noncomputable def says (E : FEnv) (f n g : Nat) : Bool := (fX E n).call f [] (H0 g) none yes
theorem closed_fast {E : FEnv} (hE : E.OK) (f n g : Nat) (h : says E f n g = true) (w : World) : Calls E.P f #[] w fun e w' => e = .returned (.bool true) ∧ Below w.heap.size w w' := by
  unfold says at h
  rw [(fX_rep n).1.call] at h
  have hq : ∃ H1, ev2 E (drawnE E) n (.call f [] (H0 g) none) = some (.fin (.ret (.bool true)) H1 false) := by
    rcases hq : ev2 E (drawnE E) n (.call f [] (H0 g) none) with _ | o <;> rw [hq] at h
    · cases h
    cases o with
    | out e fr H => cases h
    | fin c H1 rc =>
      cases c with
      | pan v => cases h
      | ret v =>
        cases rc with
        | true => cases h
        | false =>
          have h' : selV v true false false = true := h
          rw [selV_eq] at h'
          split at h'
          · exact ⟨H1, rfl⟩
          · cases h'
          · cases h'
  obtain ⟨H1, hq⟩ := hq
  intro cs
  obtain ⟨γ', w', fr', cs', h1, h2, h3, h4, v', h5, h6, h7, h8, h9, h10, fn, h11, h12⟩ := ev2_ok hE (drawn_ok hE) n _ _ hq (fun b => ⟨b, 0, 0, 0, 0⟩) ⟨w.heap.size, []⟩ w w [] .normal cs (H0_ok g w) .nil (Rc.normal _ _ _)
  have hcs : cs' = cs := by
    rcases h3 with ⟨_, q⟩ | ⟨_, q, _⟩
    · exact q
    · cases q
  subst hcs
  have hv := h5.bool_inv
  subst hv
  exact ⟨.returned (.bool true), w', fr', ⟨rfl, h2.below⟩, h4, h9, h6, h7, h8, fn, by rw [h9]; exact h11, h12⟩
end Go.Proofs.YtohgenhjdgdkgaaGreatDoor.Sh
