import Derived.Test.YtohgenhjdgdkgaaGreatDoorShSX
import Derived.Test.YtohgenhjdgdkgaaGreatDoorShSY
namespace Go.Proofs.YtohgenhjdgdkgaaGreatDoor.Sh
open Go.RowKit
set_option linter.unusedVariables false
set_option linter.unusedSimpArgs false

/-- What a call goes into: a function, or the round of a loop over a function. -/
inductive Tgt where
  | fn (f : FuncId)
  | yl (l : Nat)
inductive AN where
  | val (v : Value)
  | skip
  | enter (t : Tgt) (args : List Value)
  | defer (f : FuncId) (args cap : List Value)
  | recover
  | panic (v : Value)
noncomputable def ANOK (P : Program) (base : Bs) (w0 : World) (γ : Nat → G) (H : AH) (w : World) (s : Sem Next) (n : AN) (H' : AH) : Prop :=
  match n with
  | .val v => ∃ γ' v' w', Ext γ H.next γ' H'.next ∧ s.run P w = .ok (.value v') w' ∧ VRel γ' H'.next v v' ∧ HRel γ' base w0 H' w'
  | .skip => ∃ γ' w', Ext γ H.next γ' H'.next ∧ s.run P w = .ok .skip w' ∧ HRel γ' base w0 H' w'
  | .enter (.fn f) args => ∃ args', s.run P w = .ok (.enter f ⟨args'⟩) w ∧ LRel γ H.next args args' ∧ H' = H
  | .enter (.yl l) args => ∃ args', s.run P w = (Instr.yield (γ l).blk ⟨args'⟩).run P w ∧ LRel γ H.next args args' ∧ H' = H ∧ l < H.next
  | .defer f args cap => ∃ args' cap', s.run P w = .ok (.defer { target := .fn (.func f) ⟨cap'⟩, args := ⟨args'⟩ }) w ∧ LRel γ H.next args args' ∧ LRel γ H.next cap cap' ∧ H' = H
  | .recover => s.run P w = .ok .recover w ∧ H' = H
  | .panic v => ∃ v', s.run P w = .halt (.panic v') w ∧ VRel γ H.next v v' ∧ H' = H
/-- The functions of a program. -/
structure FEnv extends Env where
  fn : Nat → Option Func
  ext : Nat → Option Xt
  ins : Nat → Option TypeId
structure FEnv.OK (E : FEnv) : Prop where
  env : E.toEnv.OK
  fn : ∀ (f : Nat) (fn : Func), E.fn f = some fn → E.P.funcs[f]? = some fn
  name : ∀ (f : Nat) (fn : Func), E.P.funcs[f]? = some fn → (fn.name == "runtime.NumGoroutine") = false
  mixed : E.P.follows .mixedOrders = true
  ext : ∀ (f : Nat) (k : Xt), E.ext f = some k → ∃ fn, E.P.funcs[f]? = some fn ∧ fn.body.isNone = true ∧ Extern.findNext fn = none ∧ Extern.find fn = some k.sem
  ins : ∀ (f : Nat) (t : TypeId), E.ins f = some t → InsOK E.toEnv f t
noncomputable abbrev Ev := Operand → Option Value
noncomputable def evList (ev : Ev) : List Operand → Option (List Value)
  | [] => some []
  | x :: l => match ev x, evList ev l with
    | some v, some r => some (v :: r)
    | _, _ => none
noncomputable def evParts (ev : Ev) : List (Nat × Operand) → Option (List (Nat × Value))
  | [] => some []
  | (i, x) :: l => match ev x, evParts ev l with
    | some v, some r => some ((i, v) :: r)
    | _, _ => none
noncomputable def evOpt (ev : Ev) : Option Operand → Option (Option Value)
  | none => some none
  | some x => match ev x with
    | some v => some (some v)
    | none => none
noncomputable def ofVal (r : Option Value) (H : AH) : Option (AN × AH) :=
  match r with
  | some v => some (.val v, H)
  | none => none
noncomputable def ofVal2 (r : Option (Value × AH)) : Option (AN × AH) :=
  match r with
  | some (v, H) => some (.val v, H)
  | none => none
noncomputable def ofH (r : Option AH) : Option (AN × AH) :=
  match r with
  | some H => some (.skip, H)
  | none => none
noncomputable def aBuiltin (E : FEnv) (b : Builtin) (ts : List TypeId) (args : List Value) (H : AH) : Option (AN × AH) :=
  match b, ts, args with
  | .append, [t, xt], [s, x] => ofVal2 (aAppend E.toEnv t xt s x H)
  | .copy, [t, xt], [s, x] => ofVal2 (aCopy E.toEnv t xt s x H)
  | .len, t :: _, [x] => ofVal (aLen E.toEnv t x H) H
  | .clear, t :: _, [x] => ofVal2 (aClear E.toEnv t x H)
  | .min, _, xs => ofVal (aMin xs) H
  | .max, _, xs => ofVal (aMax xs) H
  | .recover, _, [] => some (.recover, H)
  | .unsafeSliceData, _, [x] => ofVal (aUSD x) H
  | .unsafeString, [pt, _], [p, n] => ofVal2 (aUStr E.toEnv pt p n H)
  | _, _, _ => none
noncomputable def aEnter (E : FEnv) (f : FuncId) (args : List Value) (H : AH) : Option (AN × AH) :=
  match E.fn f with
  | some fn => match fn.body with
    | some _ => some (.enter (.fn f) args, H)
    | none => none
  | none => none
/-- A call by its function's number: into its body, or what it hands back. -/
noncomputable def aCallF (E : FEnv) (f : FuncId) (args : List Value) (H : AH) : Option (AN × AH) :=
  match E.ext f with
  | some k => ofVal (aExt k args) H
  | none => aEnter E f args H
noncomputable def aop (E : FEnv) (ev : Ev) (o : Op) (H : AH) : Option (AN × AH) :=
  match o with
  | .move x => ofVal (ev x) H
  | .assign x => ofVal (ev x) H
  | .pick c a b => match ev c, ev a, ev b with
    | some (.bool true), some v, _ => some (.val v, H)
    | some (.bool false), _, some v => some (.val v, H)
    | _, _, _ => none
  | .alloc t => ofVal2 (aAlloc E.toEnv t H)
  | .box t x => match ev x with
    | some v => ofVal2 (aBox E.toEnv t v H)
    | none => none
  | .build t ps => match evParts ev ps.toList with
    | some l => ofVal (aBuild E.toEnv t l) H
    | none => none
  | .buildSlice t n ps => match evParts ev ps.toList with
    | some l => ofVal2 (aBuildSlice E.toEnv t n l H)
    | none => none
  | .load t a => match ev a with
    | some p => ofVal (aLoad E.toEnv t p H) H
    | none => none
  | .store t a x => match ev a, ev x with
    | some p, some v => ofH (aStore E.toEnv t p v H)
    | _, _ => none
  | .nilCheck x => match ev x with
    | some (.pointer (some a)) => some (.val (.pointer (some a)), H)
    | _ => none
  | .binOp op t x y _ => match ev x, ev y with
    | some a, some b => ofVal (aBin E.toEnv op t x y a b) H
    | _, _ => none
  | .unOp op _ x => match ev x with
    | some a => ofVal (aUn op a) H
    | none => none
  | .convert s d x => match ev x with
    | some a => ofVal2 (aConv E.toEnv s d a H)
    | none => none
  | .makeInterface t x => match ev x with
    | some a => ofVal (aMkIface E.toEnv t a) H
    | none => none
  | .makeFunc (.func f) first cap => match evList ev first.toList, evList ev cap.toList with
    | some a, some b => some (.val (.func (.func f) ⟨a⟩ ⟨b⟩), H)
    | _, _ => none
  | .makeMap t r => match evOpt ev r with
    | some r => ofVal2 (aMakeMap E.toEnv t r H)
    | none => none
  | .makeSlice t l c => match ev l, ev c with
    | some l, some c => ofVal2 (aMakeSlice E.toEnv t l c H)
    | _, _ => none
  | .slice t x lo hi mx => match ev x, evOpt ev lo, evOpt ev hi, evOpt ev mx with
    | some x, some lo, some hi, some mx => ofVal2 (aSlice E.toEnv t x lo hi mx H)
    | _, _, _, _ => none
  | .fieldAddr t x f => match ev x with
    | some a => ofVal (aField E.toEnv t a f) H
    | none => none
  | .field t x f => match ev x with
    | some a => ofVal (aFieldV E.toEnv t a f) H
    | none => none
  | .indexAddr t x i => match ev x, ev i with
    | some a, some i => ofVal (aIndexAddr E.toEnv t a i) H
    | _, _ => none
  | .index t x i => match ev x, ev i with
    | some a, some i => ofVal (aIndex E.toEnv t a i) H
    | _, _ => none
  | .lookup t x i ok => match ev x, ev i with
    | some a, some i => ofVal (aLookup E.toEnv t a i ok H) H
    | _, _ => none
  | .mapUpdate t m k v => match ev m, ev k, ev v with
    | some m, some k, some v => ofH (aMapUpdate E.toEnv t m k v H)
    | _, _, _ => none
  | .insert t m k v => match ev m, ev k, ev v with
    | some m, some k, some v => ofH (aMapUpdate E.toEnv t m k v H)
    | _, _, _ => none
  | .typeAssert x _ t ok => match ev x with
    | some a => ofVal (aAssert E.toEnv a t ok) H
    | none => none
  | .extract x i => match ev x with
    | some a => ofVal (aExtract a i) H
    | none => none
  | .panic x => match ev x with
    | some (.iface t v) => some (.panic (.iface t v), H)
    | _ => none
  | .call c => match c.callee with
    | .builtin b => match evList ev c.args.toList with
      | some l => aBuiltin E b c.argTypes.toList l H
      | none => none
    | .value f => match ev f, evList ev c.args.toList with
      | some (.func (.func g) ⟨a⟩ ⟨b⟩), some l => aCallF E g (a ++ l ++ b) H
      | some (.func (.yield y) ⟨[]⟩ ⟨[]⟩), some l => some (.enter (.yl y) l, H)
      | _, _ => none
    | _ => none
  | .defer c => match c.callee with
    | .value f => match ev f, evList ev c.args.toList with
      | some (.func (.func g) ⟨a⟩ ⟨b⟩), some l => some (.defer g (a ++ l) b, H)
      | _, _ => none
    | _ => none
  | _ => none
/-- Operands, both ways. -/
noncomputable def EvRel (γ : Nat → G) (n : Nat) (ev : Ev) (ρ : Operand → Value) : Prop := ∀ x v, ev x = some v → VRel γ n v (ρ x)
section
variable {E : FEnv} {base : Bs} {w0 w : World} {γ : Nat → G} {H : AH} {ev : Ev} {ρ : Operand → Value}
theorem evList_ok {n : Nat} (he : EvRel γ n ev ρ) : ∀ (l : List Operand) (r : List Value), evList ev l = some r → LRel γ n r (l.map ρ)
  | [], r, h => by injection h with h; subst h; exact .nil
  | x :: l, r, h => by
    unfold evList at h
    split at h
    case h_2 => cases h
    rename_i v r' hv hr
    injection h with h; subst h
    exact .cons (he x v hv) (evList_ok he l r' hr)
theorem evParts_ok {n : Nat} (he : EvRel γ n ev ρ) : ∀ (l : List (Nat × Operand)) (r : List (Nat × Value)), evParts ev l = some r → PRel γ n r (l.map fun p => (p.1, ρ p.2))
  | [], r, h => by injection h with h; subst h; exact ⟨rfl, .nil⟩
  | (i, x) :: l, r, h => by
    unfold evParts at h
    split at h
    case h_2 => cases h
    rename_i v r' hv hr
    injection h with h; subst h
    have := evParts_ok he l r' hr
    exact ⟨by simp [this.1], .cons (he x v hv) this.2⟩
theorem evOpt_ok {n : Nat} (he : EvRel γ n ev ρ) {x : Option Operand} {r : Option Value} (h : evOpt ev x = some r) : ORelV γ n r (x.map ρ) := by
  unfold evOpt at h
  split at h
  · injection h with h; subst h; trivial
  · split at h
    case h_2 => cases h
    rename_i v hv
    injection h with h; subst h
    exact he _ _ hv
theorem ANOK.ofV {s : Sem Value} {v : Value} {H' : AH} (h : VOK E.P base w0 γ H w s v H') {t : Sem Next} (ht : t = (do pure (.value (← s)))) : ANOK E.P base w0 γ H w t (.val v) H' := by
  obtain ⟨γ', v', w', h1, h2, h3, h4⟩ := h
  exact ⟨γ', v', w', h1, by rw [ht]; simp [h2], h3, h4⟩
theorem ofVal_ok {r : Option Value} {n : AN} {H' : AH} {t : Sem Next} (h : ofVal r H = some (n, H')) (k : ∀ v, r = some v → ANOK E.P base w0 γ H w t (.val v) H) : ANOK E.P base w0 γ H w t n H' := by
  unfold ofVal at h
  split at h
  case h_2 => cases h
  rename_i v
  injection h with h; injection h with e1 e2; subst e1 e2
  exact k v rfl
theorem ofVal2_ok {r : Option (Value × AH)} {n : AN} {H' : AH} {t : Sem Next} (h : ofVal2 r = some (n, H')) (k : ∀ v H', r = some (v, H') → ANOK E.P base w0 γ H w t (.val v) H') : ANOK E.P base w0 γ H w t n H' := by
  unfold ofVal2 at h
  split at h
  case h_2 => cases h
  rename_i v H2
  injection h with h; injection h with e1 e2; subst e1 e2
  exact k v _ rfl
theorem ofH_ok {r : Option AH} {n : AN} {H' : AH} {t : Sem Next} (h : ofH r = some (n, H')) (k : ∀ H', r = some H' → ANOK E.P base w0 γ H w t .skip H') : ANOK E.P base w0 γ H w t n H' := by
  unfold ofH at h
  split at h
  case h_2 => cases h
  rename_i H2
  injection h with h; injection h with e1 e2; subst e1 e2
  exact k _ rfl
theorem same_ok (h : HRel γ base w0 H w) {v v' : Value} (hv : VRel γ H.next v v') {t : Sem Next} (ht : t.run E.P w = .ok (.value v') w) : ANOK E.P base w0 γ H w t (.val v) H := ⟨γ, v', w, Ext.refl _ _, ht, hv, h⟩
theorem arr1 {α : Type} {a : Array α} {x : α} (h : a.toList = [x]) : a = #[x] := Array.ext' h
theorem arr2 {α : Type} {a : Array α} {x y : α} (h : a.toList = [x, y]) : a = #[x, y] := Array.ext' h
theorem evList2 {n : Nat} (he : EvRel γ n ev ρ) {l : List Operand} {x y : Value} (h : evList ev l = some [x, y]) : ∃ x' y', l.map ρ = [x', y'] ∧ VRel γ n x x' ∧ VRel γ n y y' := by
  have hl := evList_ok he l _ h
  obtain ⟨x', a', e1, h1, h2⟩ := hl.inv_cons
  obtain ⟨y', b', e2, h3, h4⟩ := h2.inv_cons
  rw [h4.inv_nil] at e2
  exact ⟨x', y', by rw [e1, e2], h1, h3⟩
theorem evList1 {n : Nat} (he : EvRel γ n ev ρ) {l : List Operand} {x : Value} (h : evList ev l = some [x]) : ∃ x', l.map ρ = [x'] ∧ VRel γ n x x' := by
  have hl := evList_ok he l _ h
  obtain ⟨x', a', e1, h1, h2⟩ := hl.inv_cons
  rw [h2.inv_nil] at e1
  exact ⟨x', e1, h1⟩
theorem aBuiltin_ok (hE : E.OK) (h : HRel γ base w0 H w) (he : EvRel γ H.next ev ρ) {b : Builtin} {ts : Array TypeId} {ty : TypeId} {cs : Array Bool} {ops : Array Operand} {l : List Value} {n : AN} {H' : AH} (hl : evList ev ops.toList = some l) (ha : aBuiltin E b ts.toList l H = some (n, H')) :
    ANOK E.P base w0 γ H w (builtin b ts ty cs (ops.map ρ)) n H' := by
  unfold aBuiltin at ha
  split at ha
  · rename_i t xt s x hts
    obtain ⟨s', x', e1, h1, h2⟩ := evList2 he hl
    have e2 : ops.map ρ = #[s', x'] := arr2 (by rw [Array.toList_map]; exact e1)
    rw [arr2 hts, e2]
    exact ofVal2_ok ha (fun v H' hv => (aAppend_ok (ty := ty) hE.env h h1 h2 hv).elim fun γ' q => ANOK.ofV ⟨γ', q⟩ rfl)
  · rename_i t xt s x hts
    obtain ⟨s', x', e1, h1, h2⟩ := evList2 he hl
    have e2 : ops.map ρ = #[s', x'] := arr2 (by rw [Array.toList_map]; exact e1)
    rw [arr2 hts, e2]
    exact ofVal2_ok ha (fun v H' hv => (aCopy_ok (ty := ty) hE.env h h1 h2 hv).elim fun γ' q => ANOK.ofV ⟨γ', q⟩ rfl)
  · rename_i t tr x hts
    obtain ⟨x', e1, h1⟩ := evList1 he hl
    have e2 : ops.map ρ = #[x'] := arr1 (by rw [Array.toList_map]; exact e1)
    have ht : ts[0]? = some t := by rw [← Array.getElem?_toList, hts]; rfl
    rw [e2]
    exact ofVal_ok ha (fun v hv => ANOK.ofV (aLen_ok (ty := ty) hE.env h ht h1 hv) rfl)
  · rename_i t tr x hts
    obtain ⟨x', e1, h1⟩ := evList1 he hl
    have e2 : ops.map ρ = #[x'] := arr1 (by rw [Array.toList_map]; exact e1)
    have ht : ts[0]? = some t := by rw [← Array.getElem?_toList, hts]; rfl
    rw [e2]
    exact ofVal2_ok ha (fun v H' hv => (aClear_ok (ty := ty) hE.env h ht h1 hv).elim fun γ' q => ANOK.ofV ⟨γ', q⟩ rfl)
  · rename_i tr xs
    refine ofVal_ok ha (fun v hv => ?_)
    unfold aMin at hv
    split at hv
    case h_2 => cases hv
    rename_i k a k' b
    obtain ⟨x', y', e1, h1, h2⟩ := evList2 he hl
    rw [h1.int_inv, h2.int_inv] at e1
    have e2 : ops.map ρ = #[.int k a, .int k' b] := arr2 (by rw [Array.toList_map]; exact e1)
    injection hv with hv; subst hv
    rw [e2]
    refine same_ok h (v' := .int k (match ltI b a with | true => b | false => a)) (.int _ _) ?_
    have : (match ltI b a with | true => b | false => a) = if b < a then b else a := by
      rw [ltI_eq]
      by_cases q : b < a <;> simp [q]
    rw [this]
    simp [builtin, Builtin.min_, Builtin.min2]
  · rename_i tr xs
    refine ofVal_ok ha (fun v hv => ?_)
    unfold aMax at hv
    split at hv
    case h_2 => cases hv
    rename_i k a k' b
    obtain ⟨x', y', e1, h1, h2⟩ := evList2 he hl
    rw [h1.int_inv, h2.int_inv] at e1
    have e2 : ops.map ρ = #[.int k a, .int k' b] := arr2 (by rw [Array.toList_map]; exact e1)
    injection hv with hv; subst hv
    rw [e2]
    refine same_ok h (v' := .int k (match ltI a b with | true => b | false => a)) (.int _ _) ?_
    have : (match ltI a b with | true => b | false => a) = if b > a then b else a := by
      rw [ltI_eq]
      by_cases q : a < b <;> simp [q]
    rw [this]
    simp [builtin, Builtin.max_, Builtin.max2]
  · injection ha with ha; injection ha with e1 e2; subst e1 e2
    exact ⟨rfl, rfl⟩
  · rename_i tr x hts
    obtain ⟨x', e1, h1⟩ := evList1 he hl
    have e2 : ops.map ρ = #[x'] := arr1 (by rw [Array.toList_map]; exact e1)
    rw [e2]
    refine ofVal_ok ha (fun v hv => ?_)
    obtain ⟨v', q1, q2⟩ := aUSD_ok (P := E.P) (w := w) (ts := ts) (ty := ty) h1 hv
    exact same_ok h q2 (by simp [builtin, q1])
  · rename_i pt it p n' hts
    obtain ⟨p', n2, e1, h1, h2⟩ := evList2 he hl
    have e2 : ops.map ρ = #[p', n2] := arr2 (by rw [Array.toList_map]; exact e1)
    rw [arr2 hts, e2]
    exact ofVal2_ok ha (fun v H' hv => ANOK.ofV (aUStr_ok (it := it) (ty := ty) hE.env h h1 h2 hv) rfl)
  · cases ha
theorem aEnter_ok (hE : E.OK) {f : FuncId} {args args' : List Value} {n : AN} {H' : AH} (hr : LRel γ H.next args args') (ha : aEnter E f args H = some (n, H')) : ANOK E.P base w0 γ H w (callFunc f ⟨args'⟩) n H' := by
  unfold aEnter at ha
  split at ha
  case h_2 => cases ha
  rename_i fn hfn
  split at ha
  case h_2 => cases ha
  rename_i c hb
  injection ha with ha; injection ha with e1 e2; subst e1 e2
  have hf := hE.fn _ _ hfn
  refine ⟨args', ?_, hr, rfl⟩
  have hn : ¬ (fn.name = "runtime.NumGoroutine") := by have := hE.name _ _ hf; simpa using this
  simp [callFunc, hf, hn, hb]
theorem aCallF_ok (hE : E.OK) (h : HRel γ base w0 H w) {f : FuncId} {args args' : List Value} {n : AN} {H' : AH} (hr : LRel γ H.next args args') (ha : aCallF E f args H = some (n, H')) : ANOK E.P base w0 γ H w (callFunc f ⟨args'⟩) n H' := by
  unfold aCallF at ha
  split at ha
  case h_2 => exact aEnter_ok hE hr ha
  rename_i k hk
  obtain ⟨fn, hf, hb, hn, hs⟩ := hE.ext f k hk
  have hrun := run_callFunc_extern hf (hE.name _ _ hf) hb hn hs ⟨args'⟩ w
  unfold ofVal at ha
  split at ha
  case h_2 => cases ha
  rename_i v hv
  injection ha with ha; injection ha with e1 e2; subst e1 e2
  obtain ⟨v', q1, q2⟩ := aExt_ok (P := E.P) (w := w) hr hv
  exact ⟨γ, v', w, Ext.refl _ _, hrun.trans (by rw [q1]; rfl), q2, h⟩
set_option maxHeartbeats 1000000 in
theorem aop_ok (hE : E.OK) (h : HRel γ base w0 H w) (he : EvRel γ H.next ev ρ) {o : Oper} {n : AN} {H' : AH} (ha : aop E ev o.op H = some (n, H')) : ANOK E.P base w0 γ H w (execOp ρ o) n H' := by
  have hEe := hE.env
  unfold aop at ha
  unfold execOp
  split at ha
  · rename_i x e; rw [e]
    exact ofVal_ok ha (fun v hv => same_ok h (he x v hv) rfl)
  · rename_i x e; rw [e]
    exact ofVal_ok ha (fun v hv => same_ok h (he x v hv) rfl)
  · rename_i c a b e; rw [e]
    split at ha
    · rename_i v hc hv
      injection ha with ha; injection ha with e1 e2; subst e1 e2
      refine same_ok h (he _ _ hv) ?_
      have := (he _ _ hc).bool_inv
      simp [this, asBool]
    · rename_i _ v hc hv
      injection ha with ha; injection ha with e1 e2; subst e1 e2
      refine same_ok h (he _ _ hv) ?_
      have := (he _ _ hc).bool_inv
      simp [this, asBool]
    · cases ha
  · rename_i t e; rw [e]
    exact ofVal2_ok ha (fun v H' hv => ANOK.ofV (aAlloc_ok hEe h hv) rfl)
  · rename_i t x e; rw [e]
    split at ha
    case h_2 => cases ha
    rename_i v hx
    exact ofVal2_ok ha (fun v H' hv => ANOK.ofV (aBox_ok hEe h (he _ _ hx) hv) rfl)
  · rename_i t ps e; rw [e]
    split at ha
    case h_2 => cases ha
    rename_i l hx
    refine ofVal_ok ha (fun v hv => ANOK.ofV (aBuild_ok (ps' := ps.map fun p => (p.1, ρ p.2)) hEe h (by rw [Array.toList_map]; exact evParts_ok he _ _ hx) hv) rfl)
  · rename_i t m ps e; rw [e]
    split at ha
    case h_2 => cases ha
    rename_i l hx
    refine ofVal2_ok ha (fun v H' hv => ANOK.ofV (aBuildSlice_ok (ps' := ps.map fun p => (p.1, ρ p.2)) hEe h (by rw [Array.toList_map]; exact evParts_ok he _ _ hx) hv) rfl)
  · rename_i t a e; rw [e]
    split at ha
    case h_2 => cases ha
    rename_i p hp
    exact ofVal_ok ha (fun v hv => ANOK.ofV (aLoad_ok hEe h (he _ _ hp) hv) rfl)
  · rename_i t a x e; rw [e]
    split at ha
    case h_2 => cases ha
    rename_i p v hp hv
    refine ofH_ok ha (fun H' hv' => ?_)
    obtain ⟨w', h1, h2, h3⟩ := aStore_ok hEe h (he _ _ hp) (he _ _ hv) hv'
    exact ⟨γ, w', by rw [h3]; exact Ext.refl _ _, by simp [h1], h2⟩
  · rename_i x e; rw [e]
    split at ha
    case h_2 => cases ha
    rename_i a hx
    injection ha with ha; injection ha with e1 e2; subst e1 e2
    have hv := he _ _ hx
    refine same_ok h hv ?_
    obtain ⟨b, o, s⟩ := a
    obtain ⟨_, _, e3⟩ := hv.ptr_inv
    simp [e3]
  · rename_i op t x y yt e; rw [e]
    split at ha
    case h_2 => cases ha
    rename_i a b hx hy
    exact ofVal_ok ha (fun v hv => ANOK.ofV (aBin_ok hEe h (he _ _ hx) (he _ _ hy) hv) rfl)
  · rename_i op t x e; rw [e]
    split at ha
    case h_2 => cases ha
    rename_i a hx
    exact ofVal_ok ha (fun v hv => ANOK.ofV (aUn_ok h (he _ _ hx) hv) rfl)
  · rename_i s d x e; rw [e]
    split at ha
    case h_2 => cases ha
    rename_i a hx
    exact ofVal2_ok ha (fun v H' hv => ANOK.ofV (aConv_ok hEe h (he _ _ hx) hv) rfl)
  · rename_i t x e; rw [e]
    split at ha
    case h_2 => cases ha
    rename_i a hx
    exact ofVal_ok ha (fun v hv => ANOK.ofV (aMkIface_ok hEe h (he _ _ hx) hv) rfl)
  · rename_i f first cap e; rw [e]
    split at ha
    case h_2 => cases ha
    rename_i a b hx hy
    injection ha with ha; injection ha with e1 e2; subst e1 e2
    have l1 := evList_ok he _ _ hx
    have l2 := evList_ok he _ _ hy
    refine same_ok h (v' := .func (.func f) ⟨first.toList.map ρ⟩ ⟨cap.toList.map ρ⟩) (.fn _ _ _ _ _ _ (.func f) l1.1 l1.2 l2.1 l2.2) ?_
    have a1 : first.map ρ = ⟨first.toList.map ρ⟩ := Array.ext' (by rw [Array.toList_map])
    have a2 : cap.map ρ = ⟨cap.toList.map ρ⟩ := Array.ext' (by rw [Array.toList_map])
    simp only [Instr.makeFunc, Sem.run_bind, Sem.run_pure, Result.andThen_ok, a1, a2]
  · rename_i t r e; rw [e]
    split at ha
    case h_2 => cases ha
    rename_i r' hr
    exact ofVal2_ok ha (fun v H' hv => ANOK.ofV (aMakeMap_ok hEe h (evOpt_ok he hr) hv) rfl)
  · rename_i t l c e; rw [e]
    split at ha
    case h_2 => cases ha
    rename_i l' c' hx hy
    exact ofVal2_ok ha (fun v H' hv => ANOK.ofV (aMakeSlice_ok hEe h (he _ _ hx) (he _ _ hy) hv) rfl)
  · rename_i t x lo hi mx e; rw [e]
    split at ha
    case h_2 => cases ha
    rename_i x' lo' hi' mx' hx h1 h2 h3
    exact ofVal2_ok ha (fun v H' hv => ANOK.ofV (aSlice_ok hEe h (he _ _ hx) (evOpt_ok he h1) (evOpt_ok he h2) (evOpt_ok he h3) hv) rfl)
  · rename_i t x f e; rw [e]
    split at ha
    case h_2 => cases ha
    rename_i a hx
    exact ofVal_ok ha (fun v hv => ANOK.ofV (aField_ok hEe h (he _ _ hx) hv) rfl)
  · rename_i t x f e; rw [e]
    split at ha
    case h_2 => cases ha
    rename_i a hx
    exact ofVal_ok ha (fun v hv => ANOK.ofV (aFieldV_ok hEe h (he _ _ hx) hv) rfl)
  · rename_i t x i e; rw [e]
    split at ha
    case h_2 => cases ha
    rename_i a b hx hy
    exact ofVal_ok ha (fun v hv => ANOK.ofV (aIndexAddr_ok hEe h (he _ _ hx) (he _ _ hy) hv) rfl)
  · rename_i t x i e; rw [e]
    split at ha
    case h_2 => cases ha
    rename_i a b hx hy
    exact ofVal_ok ha (fun v hv => ANOK.ofV (aIndex_ok hEe h (he _ _ hx) (he _ _ hy) hv) rfl)
  · rename_i t x i ok e; rw [e]
    split at ha
    case h_2 => cases ha
    rename_i a b hx hy
    exact ofVal_ok ha (fun v hv => ANOK.ofV (aLookup_ok hEe h (he _ _ hx) (he _ _ hy) hv) rfl)
  · rename_i t m k v e; rw [e]
    split at ha
    case h_2 => cases ha
    rename_i m' k' v' hx hy hz
    refine ofH_ok ha (fun H' hv' => ?_)
    obtain ⟨w', h1, h2, h3⟩ := aMapUpdate_ok hEe h (he _ _ hx) (he _ _ hy) (he _ _ hz) hv'
    exact ⟨γ, w', by rw [h3]; exact Ext.refl _ _, by simp [h1], h2⟩
  · rename_i t m k v e; rw [e]
    split at ha
    case h_2 => cases ha
    rename_i m' k' v' hx hy hz
    refine ofH_ok ha (fun H' hv' => ?_)
    obtain ⟨w', h1, h2, h3⟩ := aMapUpdate_ok hEe h (he _ _ hx) (he _ _ hy) (he _ _ hz) hv'
    exact ⟨γ, w', by rw [h3]; exact Ext.refl _ _, by simp [h1], h2⟩
  · rename_i x xt t ok e; rw [e]
    split at ha
    case h_2 => cases ha
    rename_i a hx
    exact ofVal_ok ha (fun v hv => ANOK.ofV (aAssert_ok hEe h (he _ _ hx) hv) rfl)
  · rename_i x i e; rw [e]
    split at ha
    case h_2 => cases ha
    rename_i a hx
    exact ofVal_ok ha (fun v hv => ANOK.ofV (aExtract_ok h (he _ _ hx) hv) rfl)
  · rename_i x e; rw [e]
    split at ha
    case h_2 => cases ha
    rename_i t v hx
    injection ha with ha; injection ha with e1 e2; subst e1 e2
    have hv := he _ _ hx
    obtain ⟨u, e3, _⟩ := hv.iface_inv
    rw [e3] at hv
    exact ⟨.iface t u, by simp only [e3]; rfl, hv, rfl⟩
  · rename_i c e; rw [e]
    split at ha
    · rename_i b hb
      split at ha
      case h_2 => cases ha
      rename_i l hl
      have := aBuiltin_ok (w := w) (ty := o.type) (cs := c.args.map fun | .const _ => true | _ => false) hE h he hl ha
      have hres : (do let d ← resolve ρ c o.type; invoke d.target d.args : Sem Next) = builtin b c.argTypes o.type (c.args.map fun | .const _ => true | _ => false) (c.args.map ρ) := by
        unfold resolve
        rw [hb]
        rfl
      show ANOK E.P base w0 γ H w (do let d ← resolve ρ c o.type; invoke d.target d.args : Sem Next) n H'
      rw [hres]
      exact this
    · rename_i f hf
      split at ha
      case h_3 => cases ha
      case h_2 =>
        rename_i y l hx hy
        injection ha with ha; injection ha with e1 e2; subst e1 e2
        have hv := he _ _ hx
        obtain ⟨e3, hy2⟩ : ρ f = .func (.yield (γ y).blk) ⟨[]⟩ ⟨[]⟩ ∧ y < H.next := by
          cases hv' : ρ f with
          | func f2 A B =>
            rw [hv'] at hv
            cases hv with
            | fn _ _ _ _ a2 b2 q1 q2 q3 q4 q5 =>
              cases q1 with
              | yield _ q =>
                have z1 : a2 = [] := List.eq_nil_of_length_eq_zero (by rw [← q2]; rfl)
                have z2 : b2 = [] := List.eq_nil_of_length_eq_zero (by rw [← q4]; rfl)
                subst z1 z2
                exact ⟨rfl, q⟩
          | _ => rw [hv'] at hv; cases hv
        have ll := evList_ok he _ _ hy
        have hres : (do let d ← resolve ρ c o.type; invoke d.target d.args : Sem Next) = Instr.yield (γ y).blk ⟨c.args.toList.map ρ⟩ := by
          have a1 : c.args.map ρ = ⟨c.args.toList.map ρ⟩ := Array.ext' (by rw [Array.toList_map])
          have hr0 : resolve ρ c o.type = Deferred.ofValue (ρ f) (c.args.map ρ) := by unfold resolve; rw [hf]
          rw [hr0, e3, a1]
          show Instr.yield (γ y).blk ((⟨[]⟩ : Array Value) ++ (⟨c.args.toList.map ρ⟩ : Array Value)) = _
          congr 1
          apply Array.ext'
          simp
        show ANOK E.P base w0 γ H w (do let d ← resolve ρ c o.type; invoke d.target d.args : Sem Next) _ H
        rw [hres]
        exact ⟨_, rfl, ll, rfl, hy2⟩
      rename_i g a b l hx hy
      have hv := he _ _ hx
      obtain ⟨f2, a2, b2, e3, hfr, la, lb⟩ : ∃ f2 a2 b2, ρ f = .func f2 ⟨a2⟩ ⟨b2⟩ ∧ f2 = .func g ∧ LRel γ H.next a a2 ∧ LRel γ H.next b b2 := by
        cases hv' : ρ f with
        | func f2 A B =>
          rw [hv'] at hv
          cases hv with
          | fn _ _ _ _ a2 b2 q1 q2 q3 q4 q5 => cases q1; exact ⟨_, a2, b2, rfl, rfl, ⟨q2, q3⟩, ⟨q4, q5⟩⟩
        | _ => rw [hv'] at hv; cases hv
      subst hfr
      have ll := evList_ok he _ _ hy
      have hres : (do let d ← resolve ρ c o.type; invoke d.target d.args : Sem Next) = callFunc g ⟨a2 ++ c.args.toList.map ρ ++ b2⟩ := by
        have a1 : c.args.map ρ = ⟨c.args.toList.map ρ⟩ := Array.ext' (by rw [Array.toList_map])
        have hr0 : resolve ρ c o.type = Deferred.ofValue (ρ f) (c.args.map ρ) := by unfold resolve; rw [hf]
        rw [hr0, e3, a1]
        show callFunc g ((⟨a2⟩ : Array Value) ++ (⟨c.args.toList.map ρ⟩ : Array Value) ++ (⟨b2⟩ : Array Value)) = _
        congr 1
        apply Array.ext'
        simp
      show ANOK E.P base w0 γ H w (do let d ← resolve ρ c o.type; invoke d.target d.args : Sem Next) n H'
      rw [hres]
      exact aCallF_ok hE h ((la.append ll).append lb) ha
    · cases ha
  · rename_i c e; rw [e]
    split at ha
    case h_2 => cases ha
    rename_i f hf
    split at ha
    case h_2 => cases ha
    rename_i g a b l hx hy
    injection ha with ha; injection ha with e1 e2; subst e1 e2
    have hv := he _ _ hx
    obtain ⟨f2, a2, b2, e3, hfr, la, lb⟩ : ∃ f2 a2 b2, ρ f = .func f2 ⟨a2⟩ ⟨b2⟩ ∧ f2 = .func g ∧ LRel γ H.next a a2 ∧ LRel γ H.next b b2 := by
      cases hv' : ρ f with
      | func f2 A B =>
        rw [hv'] at hv
        cases hv with
        | fn _ _ _ _ a2 b2 q1 q2 q3 q4 q5 => cases q1; exact ⟨_, a2, b2, rfl, rfl, ⟨q2, q3⟩, ⟨q4, q5⟩⟩
      | _ => rw [hv'] at hv; cases hv
    subst hfr
    have ll := evList_ok he _ _ hy
    refine ⟨a2 ++ c.args.toList.map ρ, b2, ?_, la.append ll, lb, rfl⟩
    have a1 : c.args.map ρ = ⟨c.args.toList.map ρ⟩ := Array.ext' (by rw [Array.toList_map])
    have hres : resolve ρ c o.type = pure { target := .fn (.func g) ⟨b2⟩, args := ⟨a2 ++ c.args.toList.map ρ⟩ } := by
      have hr0 : resolve ρ c o.type = Deferred.ofValue (ρ f) (c.args.map ρ) := by unfold resolve; rw [hf]
      rw [hr0, e3, a1]
      show (pure { target := .fn (.func g) ⟨b2⟩, args := (⟨a2⟩ : Array Value) ++ (⟨c.args.toList.map ρ⟩ : Array Value) } : Sem Deferred) = _
      congr 2
      apply Array.ext'
      simp
    show (do pure (.defer (← resolve ρ c o.type)) : Sem Next).run E.P w = _
    rw [hres]
    rfl
  · cases ha
end
end Go.Proofs.YtohgenhjdgdkgaaGreatDoor.Sh
