import Derived.Test.YtohgenhjdgdkgaaGreatDoorShSN
namespace Go.Proofs.YtohgenhjdgdkgaaGreatDoor.Sh
open Go.RowKit
set_option linter.unusedVariables false
set_option linter.unusedSimpArgs false

/-! ### the run for the kernel: each piece of code is made a function once, in the style of what comes behind -/
structure Fx where
  df : List ADef
  pk : Option Value
  rc : Bool
  rnd : Option Nat
noncomputable def Fx.fr (x : Fx) (nt : Nat) (tm : F Value) : Fr := ⟨tm, nt, x.df, x.pk, x.rc, x.rnd⟩
noncomputable def fxOf (fr : Fr) : Fx := ⟨fr.df, fr.pk, fr.rc, fr.rnd⟩
noncomputable abbrev KN := F Value → Fx → AH → Bool
noncomputable abbrev KX := Ex → F Value → Fx → AH → Bool
noncomputable abbrev KF := CR → AH → Bool → Bool
noncomputable abbrev KV := Value → AH → Bool
noncomputable abbrev KO := AN → AH → Bool
structure IH where
  again : Nat → Code → F Value → Fx → AH → KN → KX → Bool
  call : FuncId → List Value → AH → Option Value → KF → Bool
  unw : Option Value → Func → Nat → F Value → Fx → AH → KF → Bool
  round : Nat → List Value → AH → KF → Bool
  inSc : Nat → Code → Code → F Value → Fx → AH → KN → KX → Bool
noncomputable def outK (o : Option TOut) (kn : KN) (kx : KX) : Bool :=
  match o with
  | some (.out .normal fr H) => kn fr.tm (fxOf fr) H
  | some (.out e fr H) => kx e fr.tm (fxOf fr) H
  | _ => false
noncomputable def finK (o : Option TOut) (k : KF) : Bool :=
  match o with
  | some (.fin r H rc) => k r H rc
  | _ => false
noncomputable def anK (o : Option (AN × AH)) (kv : KV) (ko : KO) : Bool :=
  match o with
  | some (.val v, H) => kv v H
  | some (.skip, H) => kv undef H
  | some (an, H) => ko an H
  | none => false
noncomputable def keepNt (r : Task → Option TOut) : Prop := (∀ c fr H e fr' H', r (.again c fr H) = some (.out e fr' H') → fr'.nt = fr.nt) ∧ ∀ c x fr H e fr' H', r (.inSc c x fr H) = some (.out e fr' H') → fr'.nt = fr.nt
structure Rep (ih : IH) (r : Task → Option TOut) : Prop where
  again : ∀ nt c tm fx H kn kx, ih.again nt c tm fx H kn kx = outK (r (.again c (fx.fr nt tm) H)) kn kx
  call : ∀ f args H pk k, ih.call f args H pk k = finK (r (.call f args H pk)) k
  unw : ∀ m fn nt tm fx H k, ih.unw m fn nt tm fx H k = finK (r (.unw m fn (fx.fr nt tm) H)) k
  round : ∀ l args H k, ih.round l args H k = finK (r (.round l args H)) k
  inSc : ∀ nt c x tm fx H kn kx, ih.inSc nt c x tm fx H kn kx = outK (r (.inSc c x (fx.fr nt tm) H)) kn kx
  nt : keepNt r
/-! matching values: the arms are closed, what they use is handed on -/
noncomputable def selV : Value → Bool → Bool → Bool → Bool :=
  @Value.rec (fun _ => Bool → Bool → Bool → Bool) (fun _ => Bool) (fun _ => Bool)
    (fun b t f e => Bool.rec (motive := fun _ => Bool) f t b)
    (fun _ _ _ _ e => e) (fun _ _ _ _ e => e) (fun _ _ _ _ _ e => e) (fun _ _ _ e => e) (fun _ _ _ e => e) (fun _ _ _ _ _ e => e) (fun _ _ _ e => e) (fun _ _ _ e => e)
    (fun _ _ _ _ _ _ _ e => e) (fun _ _ e => e) (fun _ _ _ _ _ e => e) (fun _ _ e => e) (fun _ _ _ _ e => e) (fun _ _ _ _ e => e) (fun _ _ => false) false (fun _ _ _ _ => false)
theorem selV_bool (b : Bool) (t f e : Bool) : selV (.bool b) t f e = match b with | true => t | false => f := by cases b <;> rfl
theorem selV_eq (v : Value) (t f e : Bool) : selV v t f e = match v with | .bool true => t | .bool false => f | _ => e := by
  cases v with
  | bool b => cases b <;> rfl
  | _ => rfl
/-! operands -/
noncomputable abbrev RD := F Value → AH → (Value → Bool) → Bool
noncomputable def rd : Operand → Box RD
  | .tmp t => Box.rec (motive := fun _ => Box RD) (fun g => ⟨fun tm H k => k (g undef tm)⟩) (fgB t)
  | .const v => Bool.rec (motive := fun _ => Box RD) ⟨fun tm H k => false⟩ ⟨fun tm H k => k v⟩ (plainN 12 v)
  | .global g => ⟨fun tm H k => Bool.rec (motive := fun _ => Bool) false (k (.pointer (some ⟨g, 0, none⟩))) (Nat.blt g H.g0)⟩
  | .func f => ⟨fun tm H k => k (.func (.func f) ⟨[]⟩ ⟨[]⟩)⟩
theorem rd_spec (x : Operand) (tm : F Value) (H : AH) (k : Value → Bool) : (rd x).f tm H k = match evF tm H.g0 x with | some v => k v | none => false := by
  cases x with
  | tmp t => rfl
  | const v =>
    unfold rd evF
    simp only
    cases plainN 12 v <;> rfl
  | global g =>
    unfold rd evF
    simp only
    cases Nat.blt g H.g0 <;> rfl
  | func f => rfl
noncomputable abbrev RDL := F Value → AH → (List Value → Bool) → Bool
noncomputable def rdL (l : List Operand) : Box RDL :=
  List.rec (motive := fun _ => Box RDL) ⟨fun tm H k => k []⟩ (fun x _ R => Box.rec (motive := fun _ => Box RDL) (fun r => Box.rec (motive := fun _ => Box RDL) (fun rs => ⟨fun tm H k => r tm H fun v => rs tm H fun l => k (v :: l)⟩) R) (rd x)) l
theorem rdL_spec (l : List Operand) (tm : F Value) (H : AH) : ∀ (k : List Value → Bool), (rdL l).f tm H k = match evList (evF tm H.g0) l with | some v => k v | none => false := by
  induction l with
  | nil => intro k; rfl
  | cons x l ih =>
    intro k
    have : (rdL (x :: l)).f tm H k = (rd x).f tm H fun v => (rdL l).f tm H fun l => k (v :: l) := rfl
    rw [this, rd_spec]
    unfold evList
    cases evF tm H.g0 x with
    | none => rfl
    | some v =>
      simp only [ih]
      cases evList (evF tm H.g0) l <;> rfl
noncomputable def rdP (l : List (Nat × Operand)) : Box (F Value → AH → (List (Nat × Value) → Bool) → Bool) :=
  List.rec (motive := fun _ => Box (F Value → AH → (List (Nat × Value) → Bool) → Bool)) ⟨fun tm H k => k []⟩ (fun x _ R => Box.rec (motive := fun _ => Box (F Value → AH → (List (Nat × Value) → Bool) → Bool)) (fun r => Box.rec (motive := fun _ => Box (F Value → AH → (List (Nat × Value) → Bool) → Bool)) (fun rs => ⟨fun tm H k => r tm H fun v => rs tm H fun l => k ((x.1, v) :: l)⟩) R) (rd x.2)) l
theorem rdP_spec (l : List (Nat × Operand)) (tm : F Value) (H : AH) : ∀ (k : List (Nat × Value) → Bool), (rdP l).f tm H k = match evParts (evF tm H.g0) l with | some v => k v | none => false := by
  induction l with
  | nil => intro k; rfl
  | cons x l ih =>
    obtain ⟨i, x⟩ := x
    intro k
    have : (rdP ((i, x) :: l)).f tm H k = (rd x).f tm H fun v => (rdP l).f tm H fun l => k ((i, v) :: l) := rfl
    rw [this, rd_spec]
    unfold evParts
    cases evF tm H.g0 x with
    | none => rfl
    | some v =>
      simp only [ih]
      cases evParts (evF tm H.g0) l <;> rfl
/-! operations -/
noncomputable abbrev OK1 := F Value → AH → KV → KO → Bool
noncomputable def valK (r : Option Value) (H : AH) (kv : KV) : Bool := Option.rec (motive := fun _ => Bool) false (fun v => kv v H) r
noncomputable def val2K (r : Option (Value × AH)) (kv : KV) : Bool := Option.rec (motive := fun _ => Bool) false (fun p => Prod.rec (motive := fun _ => Bool) (fun v H => kv v H) p) r
noncomputable def hK (r : Option AH) (kv : KV) : Bool := Option.rec (motive := fun _ => Bool) false (fun H => kv undef H) r
theorem valK_eq (r : Option Value) (H : AH) (kv : KV) (ko : KO) : valK r H kv = anK (ofVal r H) kv ko := by cases r <;> rfl
theorem val2K_eq (r : Option (Value × AH)) (kv : KV) (ko : KO) : val2K r kv = anK (ofVal2 r) kv ko := by rcases r with _ | ⟨v, H⟩ <;> rfl
theorem hK_eq (r : Option AH) (kv : KV) (ko : KO) : hK r kv = anK (ofH r) kv ko := by cases r <;> rfl
noncomputable def opK (E : FEnv) (o : Op) : Box OK1 :=
  match o with
  | .move x => Box.rec (motive := fun _ => Box OK1) (fun r => ⟨fun tm H kv ko => r tm H fun v => kv v H⟩) (rd x)
  | .assign x => Box.rec (motive := fun _ => Box OK1) (fun r => ⟨fun tm H kv ko => r tm H fun v => kv v H⟩) (rd x)
  | .alloc t => ⟨fun tm H kv ko => val2K (aAlloc E.toEnv t H) kv⟩
  | .box t x => Box.rec (motive := fun _ => Box OK1) (fun r => ⟨fun tm H kv ko => r tm H fun v => val2K (aBox E.toEnv t v H) kv⟩) (rd x)
  | .build t ps => Box.rec (motive := fun _ => Box OK1) (fun r => ⟨fun tm H kv ko => r tm H fun l => valK (aBuild E.toEnv t l) H kv⟩) (rdP ps.toList)
  | .buildSlice t n ps => Box.rec (motive := fun _ => Box OK1) (fun r => ⟨fun tm H kv ko => r tm H fun l => val2K (aBuildSlice E.toEnv t n l H) kv⟩) (rdP ps.toList)
  | .load t a => Box.rec (motive := fun _ => Box OK1) (fun r => ⟨fun tm H kv ko => r tm H fun p => valK (aLoad E.toEnv t p H) H kv⟩) (rd a)
  | .store t a x => Box.rec (motive := fun _ => Box OK1) (fun r => Box.rec (motive := fun _ => Box OK1) (fun s => ⟨fun tm H kv ko => r tm H fun p => s tm H fun v => hK (aStore E.toEnv t p v H) kv⟩) (rd x)) (rd a)
  | .binOp op t x y _ => Box.rec (motive := fun _ => Box OK1) (fun r => Box.rec (motive := fun _ => Box OK1) (fun s => ⟨fun tm H kv ko => r tm H fun a => s tm H fun b => valK (aBin E.toEnv op t x y a b) H kv⟩) (rd y)) (rd x)
  | .unOp op _ x => Box.rec (motive := fun _ => Box OK1) (fun r => ⟨fun tm H kv ko => r tm H fun a => valK (aUn op a) H kv⟩) (rd x)
  | .convert s d x => Box.rec (motive := fun _ => Box OK1) (fun r => ⟨fun tm H kv ko => r tm H fun a => val2K (aConv E.toEnv s d a H) kv⟩) (rd x)
  | .makeInterface t x => Box.rec (motive := fun _ => Box OK1) (fun r => ⟨fun tm H kv ko => r tm H fun a => valK (aMkIface E.toEnv t a) H kv⟩) (rd x)
  | .fieldAddr t x f => Box.rec (motive := fun _ => Box OK1) (fun r => ⟨fun tm H kv ko => r tm H fun a => valK (aField E.toEnv t a f) H kv⟩) (rd x)
  | .field t x f => Box.rec (motive := fun _ => Box OK1) (fun r => ⟨fun tm H kv ko => r tm H fun a => valK (aFieldV E.toEnv t a f) H kv⟩) (rd x)
  | .indexAddr t x i => Box.rec (motive := fun _ => Box OK1) (fun r => Box.rec (motive := fun _ => Box OK1) (fun s => ⟨fun tm H kv ko => r tm H fun a => s tm H fun i => valK (aIndexAddr E.toEnv t a i) H kv⟩) (rd i)) (rd x)
  | .index t x i => Box.rec (motive := fun _ => Box OK1) (fun r => Box.rec (motive := fun _ => Box OK1) (fun s => ⟨fun tm H kv ko => r tm H fun a => s tm H fun i => valK (aIndex E.toEnv t a i) H kv⟩) (rd i)) (rd x)
  | .extract x i => Box.rec (motive := fun _ => Box OK1) (fun r => ⟨fun tm H kv ko => r tm H fun a => valK (aExtract a i) H kv⟩) (rd x)
  | .call c => match c.callee with
    | .builtin b => Box.rec (motive := fun _ => Box OK1) (fun r => ⟨fun tm H kv ko => r tm H fun l => anK (aBuiltin E b c.argTypes.toList l H) kv ko⟩) (rdL c.args.toList)
    | .value (.func g) => match E.ext g with
      | none => match E.fn g with
        | some fn => match fn.body with
          | some _ => Box.rec (motive := fun _ => Box OK1) (fun r => ⟨fun tm H kv ko => r tm H fun l => ko (.enter (.fn g) l) H⟩) (rdL c.args.toList)
          | none => ⟨fun tm H kv ko => false⟩
        | none => ⟨fun tm H kv ko => false⟩
      | some k => Box.rec (motive := fun _ => Box OK1) (fun r => ⟨fun tm H kv ko => r tm H fun l => valK (aExt k l) H kv⟩) (rdL c.args.toList)
    | _ => ⟨fun tm H kv ko => anK (aop E (evF tm H.g0) (.call c) H) kv ko⟩
  | o => ⟨fun tm H kv ko => anK (aop E (evF tm H.g0) o H) kv ko⟩
theorem opK_spec (E : FEnv) (o : Op) (tm : F Value) (H : AH) (kv : KV) (ko : KO) : (opK E o).f tm H kv ko = anK (aop E (evF tm H.g0) o H) kv ko := by
  have two : ∀ (x y : Operand) (g : Value → Value → Option (AN × AH)) (f : Value → Value → Bool), (∀ a b, f a b = anK (g a b) kv ko) →
      ((rd x).f tm H fun a => (rd y).f tm H fun b => f a b) = anK (match evF tm H.g0 x, evF tm H.g0 y with | some a, some b => g a b | _, _ => none) kv ko := by
    intro x y g f hf
    rw [rd_spec]
    cases evF tm H.g0 x with
    | none => rfl
    | some a =>
      simp only [rd_spec]
      cases evF tm H.g0 y with
      | none => rfl
      | some b => exact hf a b
  have one : ∀ (x : Operand) (g : Value → Option (AN × AH)) (f : Value → Bool), (∀ a, f a = anK (g a) kv ko) →
      ((rd x).f tm H fun a => f a) = anK (match evF tm H.g0 x with | some a => g a | none => none) kv ko := by
    intro x g f hf
    rw [rd_spec]
    cases evF tm H.g0 x with
    | none => rfl
    | some a => exact hf a
  cases o with
  | move x => exact (rd_spec x tm H _).trans (by show _ = anK (ofVal (evF tm H.g0 x) H) kv ko; cases evF tm H.g0 x <;> rfl)
  | assign x => exact (rd_spec x tm H _).trans (by show _ = anK (ofVal (evF tm H.g0 x) H) kv ko; cases evF tm H.g0 x <;> rfl)
  | alloc t => exact val2K_eq _ _ _
  | box t x => exact one x _ _ fun a => val2K_eq _ _ _
  | build t ps =>
    refine (rdP_spec _ tm H _).trans ?_
    show _ = anK (match evParts (evF tm H.g0) ps.toList with | some l => ofVal (aBuild E.toEnv t l) H | none => none) kv ko
    cases evParts (evF tm H.g0) ps.toList with
    | none => rfl
    | some l => exact valK_eq _ _ _ _
  | buildSlice t n ps =>
    refine (rdP_spec _ tm H _).trans ?_
    show _ = anK (match evParts (evF tm H.g0) ps.toList with | some l => ofVal2 (aBuildSlice E.toEnv t n l H) | none => none) kv ko
    cases evParts (evF tm H.g0) ps.toList with
    | none => rfl
    | some l => exact val2K_eq _ _ _
  | load t a => exact one a _ _ fun a => valK_eq _ _ _ _
  | store t a x => exact two a x _ _ fun a b => hK_eq _ _ _
  | binOp op t x y z => exact two x y _ _ fun a b => valK_eq _ _ _ _
  | unOp op t x => exact one x _ _ fun a => valK_eq _ _ _ _
  | convert s d x => exact one x _ _ fun a => val2K_eq _ _ _
  | makeInterface t x => exact one x _ _ fun a => valK_eq _ _ _ _
  | fieldAddr t x f => exact one x _ _ fun a => valK_eq _ _ _ _
  | field t x f => exact one x _ _ fun a => valK_eq _ _ _ _
  | indexAddr t x i => exact two x i _ _ fun a b => valK_eq _ _ _ _
  | index t x i => exact two x i _ _ fun a b => valK_eq _ _ _ _
  | extract x i => exact one x _ _ fun a => valK_eq _ _ _ _
  | call c =>
    obtain ⟨callee, args, ats⟩ := c
    cases callee with
    | builtin b =>
      refine (rdL_spec _ tm H _).trans ?_
      show _ = anK (match evList (evF tm H.g0) args.toList with | some l => aBuiltin E b ats.toList l H | none => none) kv ko
      cases evList (evF tm H.g0) args.toList <;> rfl
    | invoke r m => rfl
    | value f =>
      cases f with
      | func g =>
        have hs : anK (aop E (evF tm H.g0) (.call ⟨.value (.func g), args, ats⟩) H) kv ko = anK (match evList (evF tm H.g0) args.toList with | some l => aCallF E g l H | none => none) kv ko := by
          show anK (match evF tm H.g0 (.func g), evList (evF tm H.g0) args.toList with
            | some (.func (.func g) ⟨a⟩ ⟨b⟩), some l => aCallF E g (a ++ l ++ b) H
            | some (.func (.yield y) ⟨[]⟩ ⟨[]⟩), some l => some (.enter (.yl y) l, H)
            | _, _ => none) kv ko = _
          cases evList (evF tm H.g0) args.toList with
          | none => rfl
          | some l =>
            show anK (aCallF E g ([] ++ l ++ []) H) kv ko = _
            rw [List.nil_append, List.append_nil]
        rw [hs]
        unfold opK
        simp only
        unfold aCallF aEnter
        cases he : E.ext g with
        | some k =>
          simp only
          refine (rdL_spec _ tm H _).trans ?_
          cases evList (evF tm H.g0) args.toList with
          | none => rfl
          | some l => exact valK_eq _ _ _ _
        | none =>
          simp only
          cases hf : E.fn g with
          | none => simp only; cases evList (evF tm H.g0) args.toList <;> rfl
          | some fn =>
            simp only
            cases hb : fn.body with
            | none => simp only; cases evList (evF tm H.g0) args.toList <;> rfl
            | some c =>
              simp only
              refine (rdL_spec _ tm H _).trans ?_
              cases evList (evF tm H.g0) args.toList <;> rfl
      | _ => rfl
  | _ => rfl
end Go.Proofs.YtohgenhjdgdkgaaGreatDoor.Sh
