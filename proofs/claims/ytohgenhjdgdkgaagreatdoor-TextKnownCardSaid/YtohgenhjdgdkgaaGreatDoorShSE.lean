import Derived.Test.YtohgenhjdgdkgaaGreatDoorShSD
import Derived.AtR
namespace Go.Proofs.YtohgenhjdgdkgaaGreatDoor.Sh
open Go.RowKit
set_option linter.unusedVariables false
set_option linter.unusedSimpArgs false

/-! ### frames, regions -/
inductive ADef where
  | call (f : FuncId) (a c : List Value)
  | mark (r : Nat)
structure Fr where
  tm : F Value
  nt : Nat
  df : List ADef
  pk : Option Value
  rc : Bool
  rnd : Option Nat
noncomputable def evF (tm : F Value) (g0 : Nat) : Ev
  | .tmp t => some (tm.get undef t)
  | .const v => match plainN 12 v with
    | true => some v
    | false => none
  | .global g => match Nat.blt g g0 with
    | true => some (.pointer (some ⟨g, 0, none⟩))
    | false => none
  | .func f => some (.func (.func f) ⟨[]⟩ ⟨[]⟩)
noncomputable def Fr.put (fr : Fr) (d : Option Tmp) (v : Value) : Fr :=
  match d with
  | some d => match Nat.blt d fr.nt with
    | true => { fr with tm := fr.tm.set undef d v }
    | false => fr
  | none => fr
noncomputable def wantedB (all : List Oper) (tm : F Value) (o : Oper) : Bool :=
  match o.guard with
  | none => true
  | some (j, want) => match all[j]? with
    | some oj => match oj.dst with
      | some d => match tm.get undef d with
        | .bool b => boolEq b want
        | _ => false
      | none => false
    | none => false
inductive CR where
  | ret (v : Value)
  | pan (v : Value)
inductive Ex where
  | normal
  | exit (id : Nat)
  | ret
  | panic (v : Value)
  | goto (l : Nat)
noncomputable abbrev CallT := Tgt → List Value → AH → Option Value → Option (CR × AH × Bool)
noncomputable def evOps (E : FEnv) (call : CallT) (all : List Oper) : List Oper → Fr → AH → Option (Ex × Fr × AH)
  | [], fr, H => some (.normal, fr, H)
  | o :: rest, fr, H => match wantedB all fr.tm o with
    | false => evOps E call all rest (fr.put o.dst undef) H
    | true => match aop E (evF fr.tm H.g0) o.op H with
      | some (.val v, H') => evOps E call all rest (fr.put o.dst v) H'
      | some (.skip, H') => evOps E call all rest (fr.put o.dst undef) H'
      | some (.enter f args, H') => match call f args H' none with
        | some (.ret v, H2, false) => evOps E call all rest (fr.put o.dst v) H2
        | some (.pan v, H2, false) => some (.panic v, fr, H2)
        | _ => none
      | some (.defer f a c, H') => match fr.rnd with
        | none => evOps E call all rest (Fr.put { fr with df := .call f a c :: fr.df } o.dst undef) H'
        | some _ => none
      | some (.recover, H') => match fr.rnd, fr.pk, fr.rc with
        | none, some v, false => evOps E call all rest (Fr.put { fr with pk := none, rc := true } o.dst v) H'
        | none, none, _ => evOps E call all rest (fr.put o.dst .nilIface) H'
        | _, _, _ => none
      | some (.panic v, H') => some (.panic v, fr, H')
      | none => none
/-! what stands for what -/
noncomputable def TRel (γ : Nat → G) (n : Nat) (tm : F Value) (nt : Nat) (ts : Array Value) : Prop := ts.size = nt ∧ ∀ i, VRel γ n (tm.get undef i) (ts.getD i undef)
noncomputable def DRel (γ : Nat → G) (n : Nat) (d : ADef) (d' : Deferred) : Prop :=
  match d with
  | .call f a c => ∃ a' c', d' = { target := .fn (.func f) ⟨c'⟩, args := ⟨a'⟩ } ∧ LRel γ n a a' ∧ LRel γ n c c'
  | .mark r => d' = { target := .collected (γ r).blk, args := #[] } ∧ r < n
inductive DsRel (γ : Nat → G) (n : Nat) : List ADef → List Deferred → Prop where
  | nil : DsRel γ n [] []
  | cons (d : ADef) (d' : Deferred) (l : List ADef) (l' : List Deferred) : DRel γ n d d' → DsRel γ n l l' → DsRel γ n (d :: l) (d' :: l')
noncomputable def isUndef : Value → Bool
  | .tuple ⟨[]⟩ => true
  | _ => false
structure FrRel (γ : Nat → G) (n : Nat) (fr : Fr) (a : Act) : Prop where
  tm : TRel γ n fr.tm fr.nt a.tmps
  df : DsRel γ n fr.df a.defers
/-- In which loop's round a frame stands. -/
noncomputable def RO (γ : Nat → G) (n : Nat) : Option Nat → Option Nat → Prop
  | none, ro => ro = none
  | some l, ro => l < n ∧ ro = some (γ l).blk
theorem RO.ext {γ γ' : Nat → G} {n n' : Nat} (e : Ext γ n γ' n') {a b : Option Nat} (h : RO γ n a b) : RO γ' n' a b := by
  cases a with
  | none => exact h
  | some l => exact ⟨Nat.lt_of_lt_of_le h.1 e.1, by rw [e.2 l h.1]; exact h.2⟩
noncomputable def Rc (γ : Nat → G) (n : Nat) (kd : CallKind) (cs : List Frame) : Option Value → Prop
  | none => ∀ fr : Frame, fr.kind = kd → tryRecover fr cs = none
  | some v => kd = .deferred ∧ ∃ c r v' older, cs = c :: r ∧ c.mode = .panicking ({ v := v', recovered := false } :: older) ∧ VRel γ n v v'
noncomputable def Chg (cs cs' : List Frame) (rc rc' : Bool) : Prop :=
  (rc' = rc ∧ cs' = cs) ∨ (rc = false ∧ rc' = true ∧ ∃ c r v older, cs = c :: r ∧ c.mode = .panicking ({ v := v, recovered := false } :: older) ∧ cs' = { c with mode := .panicking ({ v := v, recovered := true } :: older) } :: r)
theorem Chg.refl (cs : List Frame) (rc : Bool) : Chg cs cs rc rc := .inl ⟨rfl, rfl⟩
theorem Chg.trans {a b c : List Frame} {x y z : Bool} (h : Chg a b x y) (k : Chg b c y z) : Chg a c x z := by
  rcases h with ⟨rfl, rfl⟩ | ⟨h1, h2, h3⟩
  · exact k
  · rcases k with ⟨rfl, rfl⟩ | ⟨k1, _⟩
    · exact .inr ⟨h1, h2, h3⟩
    · rw [h2] at k1; cases k1
section
variable {γ γ' : Nat → G} {n n' : Nat}
theorem TRel.ext (e : Ext γ n γ' n') {tm : F Value} {nt : Nat} {ts : Array Value} (h : TRel γ n tm nt ts) : TRel γ' n' tm nt ts := ⟨h.1, fun i => (h.2 i).ext e⟩
theorem DsRel.ext (e : Ext γ n γ' n') {l : List ADef} {l' : List Deferred} (h : DsRel γ n l l') : DsRel γ' n' l l' := by
  induction h with
  | nil => exact .nil
  | cons d d' l l' h1 _ ih =>
    refine .cons d d' l l' ?_ ih
    cases d with
    | call f a c =>
      obtain ⟨a', c', e1, e2, e3⟩ := h1
      exact ⟨a', c', e1, e2.ext e, e3.ext e⟩
    | mark r =>
      obtain ⟨e1, e2⟩ := h1
      exact ⟨by rw [e.2 r e2]; exact e1, Nat.lt_of_lt_of_le e2 e.1⟩
theorem FrRel.ext (e : Ext γ n γ' n') {fr : Fr} {a : Act} (h : FrRel γ n fr a) : FrRel γ' n' fr a := ⟨h.tm.ext e, h.df.ext e⟩
/-- A frame that panics: slots that read as nothing may hold whatever. -/
structure FrRelW (γ : Nat → G) (n : Nat) (fr : Fr) (a : Act) : Prop where
  tm : ∀ i, isUndef (fr.tm.get undef i) = false → VRel γ n (fr.tm.get undef i) (a.tmps.getD i undef)
  df : DsRel γ n fr.df a.defers
theorem FrRel.weak {fr : Fr} {a : Act} (h : FrRel γ n fr a) : FrRelW γ n fr a := ⟨fun i _ => h.tm.2 i, h.df⟩
theorem FrRelW.ext (e : Ext γ n γ' n') {fr : Fr} {a : Act} (h : FrRelW γ n fr a) : FrRelW γ' n' fr a := ⟨fun i hi => (h.tm i hi).ext e, h.df.ext e⟩
noncomputable abbrev FrX (e : Ex) (γ : Nat → G) (n : Nat) (fr : Fr) (a : Act) : Prop :=
  match e with
  | .panic _ => FrRelW γ n fr a
  | _ => FrRel γ n fr a
theorem FrX.weak {e : Ex} {fr : Fr} {a : Act} (h : FrX e γ n fr a) : FrRelW γ n fr a := by
  cases e with
  | panic v => exact h
  | normal => exact FrRel.weak h
  | exit id => exact FrRel.weak h
  | ret => exact FrRel.weak h
  | goto l => exact FrRel.weak h
theorem Rc.ext (e : Ext γ n γ' n') {kd : CallKind} {cs : List Frame} {p : Option Value} (h : Rc γ n kd cs p) : Rc γ' n' kd cs p := by
  cases p with
  | none => exact h
  | some v => obtain ⟨h1, c, r, v', o, h2, h3, h4⟩ := h; exact ⟨h1, c, r, v', o, h2, h3, h4.ext e⟩
theorem FrRel.put {fr : Fr} {a : Act} (h : FrRel γ n fr a) (d : Option Tmp) {v v' : Value} (hv : VRel γ n v v') : FrRel γ n (fr.put d v) (a.put d v') := by
  cases d with
  | none => exact h
  | some d =>
    obtain ⟨⟨h1, h2⟩, h3⟩ := h
    unfold Fr.put
    simp only
    cases hd : Nat.blt d fr.nt with
    | true =>
      rw [blt_eq] at hd
      have hd' := of_decide_eq_true hd
      refine ⟨⟨by simp [Act.put, h1], fun i => ?_⟩, h3⟩
      show VRel γ n ((fr.tm.set undef d v).get undef i) ((a.tmps.setIfInBounds d v').getD i undef)
      rw [F.get_set]
      by_cases e : i = d
      · subst e
        rw [if_pos rfl]
        have : (a.tmps.setIfInBounds i v').getD i undef = v' := by
          rw [Array.getD_eq_getD_getElem?, Array.getElem?_setIfInBounds, if_pos rfl, if_pos (by rw [h1]; exact hd')]
          rfl
        rw [this]; exact hv
      · rw [if_neg e]
        have : (a.tmps.setIfInBounds d v').getD i undef = a.tmps.getD i undef := by
          rw [Array.getD_eq_getD_getElem?, Array.getD_eq_getD_getElem?, Array.getElem?_setIfInBounds, if_neg (Ne.symm e)]
        rw [this]; exact h2 i
    | false =>
      rw [blt_eq] at hd
      have hd' := of_decide_eq_false hd
      refine ⟨⟨by simp [Act.put, h1], fun i => ?_⟩, h3⟩
      show VRel γ n (fr.tm.get undef i) ((a.tmps.setIfInBounds d v').getD i undef)
      have : (a.tmps.setIfInBounds d v').getD i undef = a.tmps.getD i undef := by
        rw [Array.getD_eq_getD_getElem?, Array.getD_eq_getD_getElem?, Array.getElem?_setIfInBounds]
        by_cases e : d = i
        · subst e
          rw [if_pos rfl, if_neg (by omega), Array.getElem?_eq_none (by omega)]
        · rw [if_neg e]
      rw [this]; exact h2 i
theorem evF_ok {base : Bs} {w0 w : World} {H : AH} (h : HRel γ base w0 H w) {tm : F Value} {nt : Nat} {a : Act} (ht : TRel γ H.next tm nt a.tmps) : EvRel γ H.next (evF tm H.g0) a.eval := by
  intro x v hv
  cases x with
  | tmp t => injection hv with hv; subst hv; exact ht.2 t
  | const u =>
    unfold evF at hv
    simp only at hv
    split at hv
    case h_2 => cases hv
    rename_i hp
    injection hv with hv; subst hv
    exact VRel.plain _ _ hp
  | global g =>
    unfold evF at hv
    simp only at hv
    split at hv
    case h_2 => cases hv
    rename_i hg
    rw [blt_eq] at hg
    have hg' := of_decide_eq_true hg
    injection hv with hv; subst hv
    have := VRel.ptr (γ := γ) (n := H.next) g 0 (Nat.lt_of_lt_of_le hg' h.g0)
    rw [(h.glob g hg').1, (h.glob g hg').2] at this
    exact this
  | func f => injection hv with hv; subst hv; exact .fn _ _ _ _ _ _ (.func f) rfl (fun i x y hx => by simp at hx) rfl (fun i x y hx => by simp at hx)
theorem wantedB_ok {ops : Array Oper} {tm : F Value} {nt : Nat} {ts : Array Value} (ht : TRel γ n tm nt ts) (o : Oper) : Region.wanted o (yielded ops ts) = wantedB ops.toList tm o := by
  unfold Region.wanted wantedB
  cases hg : o.guard with
  | none => rfl
  | some jw =>
    obtain ⟨j, want⟩ := jw
    simp only
    unfold yielded
    rw [← Array.getElem?_toList]
    cases hj : ops.toList[j]? with
    | none => rfl
    | some oj =>
      simp only [Option.bind_some]
      cases hd : oj.dst with
      | none => rfl
      | some d =>
        simp only [Option.bind_some]
        have hv := ht.2 d
        have hgd : ts.getD d undef = (ts[d]?).getD undef := Array.getD_eq_getD_getElem? ..
        rw [hgd] at hv
        have be : ∀ a b : Bool, boolEq a b = (some a == some b) := by intro a b; cases a <;> cases b <;> rfl
        cases hts : ts[d]? with
        | none =>
          rw [hts] at hv
          simp only [Option.getD_none] at hv
          generalize tm.get undef d = x at hv
          cases x <;> first | rfl | cases hv
        | some u =>
          rw [hts] at hv
          simp only [Option.getD_some] at hv
          generalize tm.get undef d = x at hv
          cases hv <;> first | rfl | exact (be _ _).symm
end
/-! steps -/
noncomputable def bF (fn : FuncId) (kd : CallKind) : Frame := { (default : Frame) with fn, kind := kd }
section
variable {P : Program} {b : Frame} {a : Act} {k : List Item} {cs : List Frame} {w w' : World} {ops : Array Oper} {i : Nat} {rest : List Nat} {o : Oper}
theorem op_step (ho : ops[i]? = some o) (hw : Region.wanted o (yielded ops a.tmps) = true) (hd : o.semAt b.roundOf a.eval = execOp a.eval o) {fr' : Frame} {cs' : List Frame} (h : (stepG.apply P true (b.atR a (.inRegion ops (i :: rest) :: k)) cs none (execOp a.eval o) w).bare = .go { frame := fr', callers := cs', status := .running, dying := none } w') :
    step P (lone (b.atR a (.inRegion ops (i :: rest) :: k)) cs w) = .next (lone fr' cs' w') := by
  refine step_lone_go ?_
  rw [stepGR_op ho hw, hd]
  exact h
theorem op_fin (ho : ops[i]? = some o) (v : Value) : (b.atR a (.inRegion ops (i :: rest) :: k)).finish v = b.atR (a.put o.dst v) (.inRegion ops rest :: k) := by
  rw [Frame.finish_atR, ho]; rfl
theorem op_value (ho : ops[i]? = some o) (hw : Region.wanted o (yielded ops a.tmps) = true) (hd : o.semAt b.roundOf a.eval = execOp a.eval o) {v : Value} (hr : (execOp a.eval o).run P w = .ok (.value v) w') :
    step P (lone (b.atR a (.inRegion ops (i :: rest) :: k)) cs w) = .next (lone (b.atR (a.put o.dst v) (.inRegion ops rest :: k)) cs w') := by
  rw [← op_fin ho]
  exact op_step ho hw hd (by simp [stepG.apply, hr])
theorem op_skipd (ho : ops[i]? = some o) (hw : Region.wanted o (yielded ops a.tmps) = true) (hd : o.semAt b.roundOf a.eval = execOp a.eval o) (hr : (execOp a.eval o).run P w = .ok .skip w') :
    step P (lone (b.atR a (.inRegion ops (i :: rest) :: k)) cs w) = .next (lone (b.atR (a.put o.dst undef) (.inRegion ops rest :: k)) cs w') := by
  rw [← op_fin ho]
  exact op_step ho hw hd (by simp [stepG.apply, hr])
/-- Into a call: a function's frame, or a round's. -/
inductive Into (P : Program) (s : Sem Next) (w : World) (c : Frame) (cs : List Frame) : Machine → Prop where
  | fn (f : FuncId) (args : Array Value) : s.run P w = .ok (.enter f args) w → Into P s w c cs (lone (Frame.enter P f args .normal) (c :: cs) w)
  | rnd (l : Nat) (f : FuncId) (ts : Array Value) (x y : Code) : s.run P w = .ok (.round l f ts x y) w → Into P s w c cs (lone (Frame.round l f ts x y .normal) (c :: cs) w)
theorem op_into (ho : ops[i]? = some o) (hw : Region.wanted o (yielded ops a.tmps) = true) (hd : o.semAt b.roundOf a.eval = execOp a.eval o) {M : Machine} (hi : Into P (execOp a.eval o) w (b.atR a (.inRegion ops (i :: rest) :: k)) cs M) :
    step P (lone (b.atR a (.inRegion ops (i :: rest) :: k)) cs w) = .next M := by
  cases hi with
  | fn f args hr => exact op_step ho hw hd (by simp [stepG.apply, hr, Frame.atR])
  | rnd l f ts x y hr => exact op_step ho hw hd (by simp [stepG.apply, hr, Frame.atR])
theorem op_defer (ho : ops[i]? = some o) (hw : Region.wanted o (yielded ops a.tmps) = true) (hro : b.roundOf = none) {d : Deferred} (hr : (execOp a.eval o).run P w = .ok (.defer d) w') :
    step P (lone (b.atR a (.inRegion ops (i :: rest) :: k)) cs w) = .next (lone (b.atR ({ a with defers := d :: a.defers }.put o.dst undef) (.inRegion ops rest :: k)) cs w') := by
  refine op_step ho hw (by rw [hro]; rfl) ?_
  have : ({ b.atR a (.inRegion ops (i :: rest) :: k) with defers := d :: a.defers } : Frame).finish undef = b.atR ({ a with defers := d :: a.defers }.put o.dst undef) (.inRegion ops rest :: k) := by
    have := Frame.finish_atR b { a with defers := d :: a.defers } ops i rest k undef
    rw [ho] at this; exact this
  simp only [stepG.apply, Sem.runT_eq, hr, GStep.bare_after]
  exact congrArg (fun fr => GStep.go { frame := fr, callers := cs, status := .running, dying := none } w') this
theorem op_panic (ho : ops[i]? = some o) (hw : Region.wanted o (yielded ops a.tmps) = true) (hd : o.semAt b.roundOf a.eval = execOp a.eval o) {v : Value} (hr : (execOp a.eval o).run P w = .halt (.panic v) w') :
    step P (lone (b.atR a (.inRegion ops (i :: rest) :: k)) cs w) = .next (lone { b.atR a (.inRegion ops (i :: rest) :: k) with mode := .panicking [{ v, recovered := false }] } cs w') := by
  rw [← Frame.raise_atR]
  exact op_step ho hw hd (by simp [stepG.apply, hr])
theorem op_recover_none (ho : ops[i]? = some o) (hw : Region.wanted o (yielded ops a.tmps) = true) (hro : b.roundOf = none) (hr : (execOp a.eval o).run P w = .ok .recover w') (ht : tryRecover (b.atR a (.inRegion ops (i :: rest) :: k)) cs = none) :
    step P (lone (b.atR a (.inRegion ops (i :: rest) :: k)) cs w) = .next (lone (b.atR (a.put o.dst .nilIface) (.inRegion ops rest :: k)) cs w') := by
  rw [← op_fin ho]
  refine op_step ho hw (by rw [hro]; rfl) ?_
  have hro' : (b.atR a (.inRegion ops (i :: rest) :: k)).roundOf = none := hro
  simp [stepG.apply, hr, hro', ht]
theorem op_recover_some (ho : ops[i]? = some o) (hw : Region.wanted o (yielded ops a.tmps) = true) (hro : b.roundOf = none) (hr : (execOp a.eval o).run P w = .ok .recover w') {v : Value} {cs' : List Frame} (ht : tryRecover (b.atR a (.inRegion ops (i :: rest) :: k)) cs = some (v, cs')) :
    step P (lone (b.atR a (.inRegion ops (i :: rest) :: k)) cs w) = .next (lone (b.atR (a.put o.dst v) (.inRegion ops rest :: k)) cs' w') := by
  rw [← op_fin ho]
  refine op_step ho hw (by rw [hro]; rfl) ?_
  have hro' : (b.atR a (.inRegion ops (i :: rest) :: k)).roundOf = none := hro
  simp [stepG.apply, hr, hro', ht]
end
/-- An operation that does not defer means the same in a round. -/
theorem aop_semAt {E : FEnv} {ev : Ev} {o : Oper} {H H' : AH} {n : AN} (h : aop E ev o.op H = some (n, H')) (hn : ∀ f a c, n ≠ .defer f a c) (ro : Option Nat) (ρ : Operand → Value) : o.semAt ro ρ = execOp ρ o := by
  refine Oper.semAt_eq ro ρ o fun c hc => ?_
  rw [hc] at h
  unfold aop at h
  simp only at h
  split at h
  case h_2 => cases h
  split at h
  case h_2 => cases h
  injection h with h; injection h with h _
  exact hn _ _ _ h.symm
end Go.Proofs.YtohgenhjdgdkgaaGreatDoor.Sh
