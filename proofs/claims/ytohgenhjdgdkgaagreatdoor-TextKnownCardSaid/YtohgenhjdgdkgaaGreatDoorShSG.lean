import Derived.Test.YtohgenhjdgdkgaaGreatDoorShSF
import Derived.Defers
namespace Go.Proofs.YtohgenhjdgdkgaaGreatDoor.Sh
open Go.RowKit
set_option linter.unusedVariables false
set_option linter.unusedSimpArgs false

/-! ### code, functions -/
inductive Task where
  | code (c : Code) (fr : Fr) (H : AH)
  | again (c : Code) (fr : Fr) (H : AH)
  | call (f : FuncId) (args : List Value) (H : AH) (pk : Option Value)
  | unw (m : Option Value) (fn : Func) (fr : Fr) (H : AH)
  | round (l : Nat) (args : List Value) (H : AH)
  | inSc (c r : Code) (fr : Fr) (H : AH)
inductive TOut where
  | out (e : Ex) (fr : Fr) (H : AH)
  | fin (r : CR) (H : AH) (rc : Bool)
noncomputable def taskOf (t : Tgt) (args : List Value) (H : AH) (pk : Option Value) : Task :=
  match t with
  | .fn f => .call f args H pk
  | .yl l => .round l args H
noncomputable def insOf (E : FEnv) (t : Tgt) : Option TypeId :=
  match t with
  | .fn f => E.ins f
  | .yl _ => none
noncomputable def callOf (E : FEnv) (rec : Task → Option TOut) : CallT := fun t args H pk =>
  match insOf E t with
  | some ty => match aIns E.toEnv ty args H with
    | some (v, H') => some (.ret v, H', false)
    | none => none
  | none => match rec (taskOf t args H pk) with
    | some (.fin r H' rc) => some (r, H', rc)
    | _ => none
noncomputable def ofOps (r : Option (Ex × Fr × AH)) : Option TOut :=
  match r with
  | some (e, fr, H) => some (.out e fr H)
  | none => none
noncomputable def tmOf : List Value → Nat → F Value → F Value
  | [], _, t => t
  | v :: l, i, t => tmOf l (i + 1) (t.set undef i v)
noncomputable def noUndef (v : Value) : Option Value := match isUndef v with
  | true => none
  | false => some v
theorem noUndef_some {v u : Value} (h : noUndef v = some u) : u = v ∧ isUndef v = false := by
  unfold noUndef at h
  split at h
  · cases h
  · rename_i hv; injection h with h; exact ⟨h.symm, hv⟩
/-- A function's results. -/
noncomputable def aRes (E : FEnv) (tm : F Value) (H : AH) : List ResultVar → Option (List Value)
  | [] => some []
  | r :: l => match (match r with
      | .tmp t => noUndef (tm.get undef t)
      | .cell a t => match noUndef (tm.get undef a) with
        | some p => aLoad E.toEnv t p H
        | none => none), aRes E tm H l with
    | some v, some vs => some (v :: vs)
    | _, _ => none
noncomputable def resOf : List Value → Value
  | [v] => v
  | vs => .tuple ⟨vs⟩
/-! loops over functions -/
noncomputable def putAll (nt : Nat) : List Tmp → List Value → F Value → F Value
  | t :: ts, v :: vs, tm => putAll nt ts vs (match Nat.blt t nt with | true => tm.set undef t v | false => tm)
  | _, _, tm => tm
noncomputable def newOb (H : AH) (o : AObj) : AH := H.new o H.next (H.next :: H.mem H.next)
/-- The loop's record is laid: its block, the heap, the frame. -/
noncomputable def openLoop (fr : Fr) (H : AH) (ps : Array Tmp) (x y : Code) : Option (Nat × Fr × AH) :=
  match fr.rnd with
  | none => some (H.next + 1, { fr with df := .mark H.next :: fr.df }, newOb (newOb H .dfr) (.loop ⟨.ready, none, fr.tm, fr.nt, ps, x, y, H.next⟩))
  | some l0 => match H.obj l0 with
    | .loop L0 => some (H.next, fr, newOb H (.loop ⟨.ready, none, fr.tm, fr.nt, ps, x, y, L0.df⟩))
    | _ => none
noncomputable def AH.setLoop (H : AH) (l : Nat) (L : ALoop) : AH := H.setObj l (.loop L)
noncomputable def AH.drop1 (H : AH) (l : Nat) : AH := H.setObj l .gone
noncomputable def busyB : LoopState → Bool
  | .busy => true
  | _ => false
noncomputable def readyB : LoopState → Bool
  | .ready => true
  | _ => false
/-- Behind the function that was ranged over. -/
noncomputable def closeLoop (l : Nat) (fr : Fr) (H : AH) : Option TOut :=
  match H.obj l with
  | .loop L => match busyB L.st with
    | true => none
    | false => match L.pend with
      | none => some (.out .normal fr (H.setLoop l { L with st := .exhausted }))
      | some (.exit id) => some (.out (.exit id) fr (H.setLoop l { L with st := .exhausted }))
      | some .ret => some (.out .ret fr (H.setLoop l { L with st := .exhausted }))
      | _ => none
  | _ => none
noncomputable def endRnd (l : Nat) (jump : Option Code) (H : AH) : Option TOut :=
  match H.obj l with
  | .loop L => match jump with
    | none => some (.fin (.ret (.bool true)) (H.setLoop l { L with st := .ready, pend := none }) false)
    | some c => some (.fin (.ret (.bool false)) (H.setLoop l { L with st := .done, pend := some c }) false)
  | _ => none
noncomputable def runRnd (rec : Task → Option TOut) (l : Nat) (args : List Value) (H : AH) : Option TOut :=
  match H.obj l with
  | .loop L => match Nat.beq args.length L.ps.size with
    | true => match rec (.code L.asg ⟨putAll L.nt L.ps.toList args L.tm, L.nt, [], none, false, some l⟩ H) with
      | some (.out .normal fr1 H1) => match fr1.rc, H1.obj l with
        | false, .loop L1 => match readyB L1.st with
          | true => match rec (.code L.bd fr1 (H1.setLoop l { L1 with st := .busy })) with
            | some (.out e fr2 H2) => match fr2.rc, e with
              | false, .normal => endRnd l none H2
              | false, .exit id => endRnd l (some (.exit id)) H2
              | false, .ret => endRnd l (some .ret) H2
              | _, _ => none
            | _ => none
          | false => none
        | _, _ => none
      | _ => none
    | false => none
  | _ => none
noncomputable def runRange (E : FEnv) (rec : Task → Option TOut) (f : Operand) (ps : Array Tmp) (x y : Code) (fr : Fr) (H : AH) : Option TOut :=
  match evF fr.tm H.g0 f with
  | some (.func (.func g) ⟨a⟩ ⟨b⟩) => match openLoop fr H ps x y with
    | some (l, fr1, H1) => match aEnter E g (a ++ [.func (.yield l) ⟨[]⟩ ⟨[]⟩] ++ b) H1 with
      | some _ => match rec (.call g (a ++ [.func (.yield l) ⟨[]⟩ ⟨[]⟩] ++ b) H1 none) with
        | some (.fin (.ret _) H2 false) => closeLoop l fr1 H2
        | some (.fin (.pan v) H2 false) => some (.out (.panic v) fr1 H2)
        | _ => none
      | none => none
    | none => none
  | _ => none
/-- Code within a scope: jumps to the scope's labels go on there. -/
noncomputable def runScope (rec : Task → Option TOut) (c : Code) (q : Option TOut) : Option TOut :=
  match q with
  | some (.out (.goto l) fr H) => match findLabel c l with
    | some r => rec (.inSc c r fr H)
    | none => some (.out (.goto l) fr H)
  | q => q
/-- A frame is left: by what is deferred. -/
noncomputable def unwD (E : FEnv) (rec : Task → Option TOut) (m : Option Value) (fn : Func) (fr : Fr) (H : AH) (df : List ADef) : Option TOut :=
  match df with
    | [] => match m with
      | some v => some (.fin (.pan v) H fr.rc)
      | none => match aRes E fr.tm H fn.results.toList with
        | some vs => some (.fin (.ret (resOf vs)) H fr.rc)
        | none => none
    | .mark r :: ds => match H.obj r with
      | .dfr => rec (.unw m fn { fr with df := ds } (H.drop1 r))
      | _ => none
    | .call f a c :: ds => match aEnter E f (a ++ c) H with
     | none => none
     | some _ => match rec (.call f (a ++ c) H m) with
      | some (.fin (.ret _) H rc) => match rc with
        | true => rec (.unw none fn { fr with df := ds } H)
        | false => rec (.unw m fn { fr with df := ds } H)
      | some (.fin (.pan v) H rc) => match m with
        | none => rec (.unw (some v) fn { fr with df := ds } H)
        | some _ => none
      | _ => none
noncomputable def body (E : FEnv) (drawn : CallT → List Oper → Fr → AH → Option (Ex × Fr × AH)) (rec : Task → Option TOut) : Task → Option TOut
  | .code c fr H => match c with
    | .skip => some (.out .normal fr H)
    | .label _ => some (.out .normal fr H)
    | .region _ ops draw => match draw with
      | false => ofOps (evOps E (callOf E rec) ops.toList ops.toList fr H)
      | true => ofOps (drawn (callOf E rec) ops.toList fr H)
    | .seq a b => match rec (.code a fr H) with
      | some (.out .normal fr H) => rec (.code b fr H)
      | some (.out e fr H) => some (.out e fr H)
      | _ => none
    | .cond x a b => match evF fr.tm H.g0 x with
      | some (.bool true) => rec (.code a fr H)
      | some (.bool false) => rec (.code b fr H)
      | _ => none
    | .block id c => match rec (.code c fr H) with
      | some (.out (.exit id') fr H) => match Nat.beq id' id with
        | true => some (.out .normal fr H)
        | false => some (.out (.exit id') fr H)
      | some (.out e fr H) => some (.out e fr H)
      | _ => none
    | .loop c => match rec (.code c fr H) with
      | some (.out .normal fr H) => rec (.again c fr H)
      | some (.out e fr H) => some (.out e fr H)
      | _ => none
    | .scope c => runScope rec c (rec (.code c fr H))
    | .goto l => some (.out (.goto l) fr H)
    | .exit id => some (.out (.exit id) fr H)
    | .ret => some (.out .ret fr H)
    | .rangeFunc f ps x y => runRange E rec f ps x y fr H
    | _ => none
  | .again c fr H => match rec (.code c fr H) with
    | some (.out .normal fr H) => rec (.again c fr H)
    | some (.out e fr H) => some (.out e fr H)
    | _ => none
  | .call f args H pk => match E.fn f with
    | some fn => match fn.body with
      | some c => match Nat.ble args.length fn.ntmps with
        | true => match rec (.code c ⟨tmOf args 0 .lf, fn.ntmps, [], pk, false, none⟩ H) with
          | some (.out .normal fr H) => rec (.unw none fn fr H)
          | some (.out .ret fr H) => rec (.unw none fn fr H)
          | some (.out (.panic v) fr H) => rec (.unw (some v) fn fr H)
          | _ => none
        | false => none
      | none => none
    | none => none
  | .unw m fn fr H => unwD E rec m fn fr H fr.df
  | .round l args H => runRnd rec l args H
  | .inSc c r fr H => runScope rec c (rec (.code r fr H))
noncomputable def ev (E : FEnv) (drawn : CallT → List Oper → Fr → AH → Option (Ex × Fr × AH)) (n : Nat) : Task → Option TOut :=
  Nat.rec (motive := fun _ => Task → Option TOut) (fun _ => none) (fun _ ih t => body E drawn ih t) n
/-! what it means -/
noncomputable def DrawnOK (E : FEnv) (drawn : CallT → List Oper → Fr → AH → Option (Ex × Fr × AH)) : Prop :=
  ∀ (call : CallT), CallOK E call → ∀ (ops : Array Oper) (fr : Fr) (H : AH) (e : Ex) (fr' : Fr) (H' : AH), drawn call ops.toList fr H = some (e, fr', H') →
    ∀ (γ : Nat → G) (base : Bs) (w0 w : World) (b : Frame) (a : Act) (k : List Item) (cs : List Frame) (t : Nat), HRel γ base w0 H w → FrRel γ H.next fr a → Rc γ H.next b.kind cs fr.pk → RO γ H.next fr.rnd b.roundOf →
      Runs E.P (lone (b.atR a (.inRegion ops (Region.schedule (E.P.follows .mixedOrders) ops t) :: k)) cs w) b k cs γ base w0 H.next fr.rc e fr' H'
noncomputable def ModeOK (γ : Nat → G) (n : Nat) : Option Value → FrameMode → Prop
  | none, mode => mode = .returning
  | some v, mode => ∃ v', VRel γ n v v' ∧ mode = .panicking [{ v := v', recovered := false }]
noncomputable def TaskOK (E : FEnv) : Task → TOut → Prop
  | .code c fr H, .out e fr' H' => ∀ (γ : Nat → G) (base : Bs) (w0 w : World) (b : Frame) (a : Act) (k : List Item) (cs : List Frame), HRel γ base w0 H w → FrRel γ H.next fr a → Rc γ H.next b.kind cs fr.pk → RO γ H.next fr.rnd b.roundOf →
      Runs E.P (lone (b.atR a (.code c :: k)) cs w) b k cs γ base w0 H.next fr.rc e fr' H'
  | .again c fr H, .out e fr' H' => ∀ (γ : Nat → G) (base : Bs) (w0 w : World) (b : Frame) (a : Act) (k : List Item) (cs : List Frame), HRel γ base w0 H w → FrRel γ H.next fr a → Rc γ H.next b.kind cs fr.pk → RO γ H.next fr.rnd b.roundOf →
      Runs E.P (lone (b.atR a (.inLoop c :: k)) cs w) b k cs γ base w0 H.next fr.rc e fr' H'
  | .inSc c r fr H, .out e fr' H' => ∀ (γ : Nat → G) (base : Bs) (w0 w : World) (b : Frame) (a : Act) (k : List Item) (cs : List Frame), HRel γ base w0 H w → FrRel γ H.next fr a → Rc γ H.next b.kind cs fr.pk → RO γ H.next fr.rnd b.roundOf →
      Runs E.P (lone (b.atR a (.code r :: .inScope c :: k)) cs w) b k cs γ base w0 H.next fr.rc e fr' H'
  | .call f args H pk, .fin r H' rc => ∀ (γ : Nat → G) (base : Bs) (w0 w : World) (args' : List Value) (kd : CallKind) (cs : List Frame), HRel γ base w0 H w → LRel γ H.next args args' → Rc γ H.next kd cs pk →
    ∃ γ' w' fr' cs', Ext γ H.next γ' H'.next ∧ HRel γ' base w0 H' w' ∧ Chg cs cs' false rc ∧ Steps E.P (lone (Frame.enter E.P f ⟨args'⟩ kd) cs w) (lone fr' cs' w') ∧ Left E.P f kd fr' w' γ' H'.next r
  | .unw m fn fr H, .fin r H' rc => ∀ (γ : Nat → G) (base : Bs) (w0 w : World) (b : Frame) (a : Act) (todo : List Item) (cs : List Frame) (mode : FrameMode), HRel γ base w0 H w → FrRelW γ H.next fr a → E.P.funcs[b.fn]? = some fn → b.roundOf = none →
      ModeOK γ H.next m mode →
      ∃ γ' w' fr', Ext γ H.next γ' H'.next ∧ HRel γ' base w0 H' w' ∧ rc = fr.rc ∧ Steps E.P (lone { b.atR a todo with mode := mode } cs w) (lone fr' cs w') ∧ Left E.P b.fn b.kind fr' w' γ' H'.next r
  | .round l args H, .fin r H' rc => rc = false ∧ ∀ (γ : Nat → G) (base : Bs) (w0 w : World) (args' : List Value), HRel γ base w0 H w → LRel γ H.next args args' → l < H.next →
    ∃ f ts x y, (Instr.yield (γ l).blk ⟨args'⟩).run E.P w = .ok (.round (γ l).blk f ts x y) w ∧ ∀ (c : Frame) (cs : List Frame), ∃ γ' w', Ext γ H.next γ' H'.next ∧ HRel γ' base w0 H' w' ∧ Back E.P (lone (Frame.round (γ l).blk f ts x y .normal) (c :: cs) w) c cs w' γ' H'.next r
  | _, _ => False
noncomputable def RecOK (E : FEnv) (rec : Task → Option TOut) : Prop := ∀ t o, rec t = some o → TaskOK E t o
section
variable {E : FEnv} {rec : Task → Option TOut} {drawn : CallT → List Oper → Fr → AH → Option (Ex × Fr × AH)}
theorem callOf_ok (hE : E.OK) (hr : RecOK E rec) : CallOK E (callOf E rec) := by
  intro t args H r H' h γ base w0 w s hR hA c cs
  unfold callOf at h
  split at h
  · rename_i ty hty
    split at h
    case h_2 => cases h
    rename_i v H1 hins
    injection h with h; injection h with e1 e2; injection e2 with e2 e3; subst e1 e2
    cases t with
    | yl l => cases hty
    | fn f =>
      obtain ⟨args', h1, h2, _⟩ := hA
      obtain ⟨en, w1, fr1, ⟨γ1, v', g1, rfl, g2, g3⟩, g4, g5, g6⟩ := aIns_ok hE.env (hE.ins f ty hty) hR h2 hins (c :: cs)
      exact ⟨_, γ1, w1, .fn f ⟨args'⟩ h1, g1, g3, v', g2, Steps.trans g4 (.one (step_leave_returned (P := E.P) (fr := fr1) (c := c) (cs := cs) (w := w1) (v := v') g6))⟩
  rename_i hty
  split at h
  case h_2 => cases h
  rename_i r0 H0 rc0 hq
  injection h with h; injection h with e1 e2; injection e2 with e2 e3; subst e1 e2 e3
  cases t with
  | fn f =>
    obtain ⟨args', h1, h2, _⟩ := hA
    obtain ⟨γ1, w1, fr1, cs1, g1, g2, g3, g4, g5⟩ := hr _ _ hq γ base w0 w args' .normal (c :: cs) hR h2 (Rc.normal _ _ _)
    have hcs : cs1 = c :: cs := by
      rcases g3 with ⟨_, q⟩ | ⟨_, q, _⟩
      · exact q
      · cases q
    subst hcs
    refine ⟨_, γ1, w1, .fn f ⟨args'⟩ h1, g1, g2, ?_⟩
    cases r0 with
    | ret v =>
      obtain ⟨v', g5, g6, g7, g8, g9, g10, fn, g11, g12⟩ := g5
      exact ⟨v', g5, g4.trans (.one (step_leave_returned (P := E.P) (fr := fr1) (c := c) (cs := cs) (w := w1) (v := v') ⟨g6, g7, g8, fn, by rw [g9]; exact g11, g12⟩))⟩
    | pan v =>
      obtain ⟨v', g5, g6, g7, g8, g9, fn, g10⟩ := g5
      exact ⟨v', g5, g4.trans (.one (step_leave_panicked (P := E.P) (fr := fr1) (c := c) (cs := cs) (w := w1) (chain := [{ v := v', recovered := false }]) ⟨g6, g7, fn, by rw [g9]; exact g10⟩))⟩
  | yl l =>
    obtain ⟨args', h1, h2, _, h3⟩ := hA
    obtain ⟨_, hk⟩ := hr _ _ hq
    obtain ⟨f, ts, x, y, k1, k2⟩ := hk γ base w0 w args' hR h2 h3
    obtain ⟨γ1, w1, g1, g2, g3⟩ := k2 c cs
    exact ⟨_, γ1, w1, .rnd _ f ts x y (h1.trans k1), g1, g2, g3⟩
theorem tmOf_get : ∀ (l : List Value) (i : Nat) (t : F Value) (j : Nat), (tmOf l i t).get undef j = if i ≤ j ∧ j < i + l.length then l.getD (j - i) undef else t.get undef j := by
  intro l
  induction l with
  | nil => intro i t j; rw [if_neg (by simp)]; rfl
  | cons v l ih =>
    intro i t j
    rw [tmOf, ih, F.get_set]
    by_cases h1 : i + 1 ≤ j ∧ j < i + 1 + l.length
    · rw [if_pos h1, if_pos (by simp; omega), show j - i = (j - (i + 1)) + 1 by omega]; rfl
    · rw [if_neg h1]
      by_cases h2 : j = i
      · subst h2; rw [if_pos rfl, if_pos (by simp), Nat.sub_self]; rfl
      · rw [if_neg h2, if_neg (by simp; omega)]
theorem enter_rel {γ : Nat → G} {n : Nat} {args args' : List Value} (h : LRel γ n args args') (k : Nat) (hk : args.length ≤ k) : TRel γ n (tmOf args 0 .lf) k ((⟨args'⟩ : Array Value) ++ Array.replicate (k - (⟨args'⟩ : Array Value).size) undef) := by
  have hl := h.1
  refine ⟨by simp; omega, fun i => ?_⟩
  rw [tmOf_get, Array.getD_eq_getD_getElem?]
  by_cases hi : i < args.length
  · rw [if_pos (by omega)]
    have hx : args[i]? = some (args[i]) := List.getElem?_eq_getElem hi
    obtain ⟨y, hy, hr⟩ := h.get hx
    rw [List.getD_eq_getElem?_getD, Nat.sub_zero, hx, Array.getElem?_append_left (by simp; omega)]
    have : (⟨args'⟩ : Array Value)[i]? = some y := by simpa using hy
    rw [this]; exact hr
  · rw [if_neg (by omega), F.get_lf, Array.getElem?_append_right (by simp; omega), Array.getElem?_replicate]
    split <;> exact VRel.undef
noncomputable def resV (ts : Array Value) : ResultVar → Sem Value
  | .tmp t => pure (ts.getD t undef)
  | .cell a t => do loadVar t (← asAddr (ts.getD a undef))
theorem results_eq (fn : Func) (ts : Array Value) : results fn ts = (do
    let vs ← fn.results.mapM (resV ts)
    pure (if h : vs.size = 1 then vs[0] else .tuple vs)) := by
  unfold results
  congr 1
theorem aRes_ok (hE : E.OK) {γ : Nat → G} {base : Bs} {w0 w : World} {H : AH} (h : HRel γ base w0 H w) {tm : F Value} {ts : Array Value} (ht : ∀ i, isUndef (tm.get undef i) = false → VRel γ H.next (tm.get undef i) (ts.getD i undef)) : ∀ (l : List ResultVar) (vs : List Value), aRes E tm H l = some vs →
    ∃ vs', (l.mapM (m := Sem) (resV ts)).run E.P w = .ok vs' w ∧ LRel γ H.next vs vs' := by
  intro l
  induction l with
  | nil => intro vs h0; injection h0 with h0; subst h0; exact ⟨[], by simp, .nil⟩
  | cons r l ih =>
    intro vs h0
    unfold aRes at h0
    split at h0
    case h_2 => cases h0
    rename_i v vs1 hv hvs
    injection h0 with h0; subst h0
    obtain ⟨vs', h1, h2⟩ := ih vs1 hvs
    cases r with
    | tmp t =>
      simp only at hv
      obtain ⟨rfl, hnu⟩ := noUndef_some hv
      refine ⟨ts.getD t undef :: vs', ?_, .cons (ht t hnu) h2⟩
      simp only [List.mapM_cons, Sem.run_bind, resV, Sem.run_pure, Result.andThen_ok, h1]
    | cell a t =>
      simp only at hv
      split at hv
      case h_2 => cases hv
      rename_i p hp
      obtain ⟨rfl, hnu⟩ := noUndef_some hp
      obtain ⟨v', ad, e1, k1, k2⟩ := aLoad_run hE.env h (ht a hnu) hv
      refine ⟨v' :: vs', ?_, .cons k2 h2⟩
      have ha : (asAddr (ts.getD a undef)).run E.P w = .ok ad w := by rw [e1]; rfl
      simp only [List.mapM_cons, Sem.run_bind, resV, ha, Sem.run_pure, Result.andThen_ok, k1, h1]
theorem results_ok (hE : E.OK) {γ : Nat → G} {base : Bs} {w0 w : World} {H : AH} (h : HRel γ base w0 H w) {tm : F Value} {ts : Array Value} (ht : ∀ i, isUndef (tm.get undef i) = false → VRel γ H.next (tm.get undef i) (ts.getD i undef)) {fn : Func} {vs : List Value} (hr : aRes E tm H fn.results.toList = some vs) :
    ∃ v', (results fn ts).run E.P w = .ok v' w ∧ VRel γ H.next (resOf vs) v' := by
  obtain ⟨vs', h1, h2⟩ := aRes_ok hE h ht _ _ hr
  refine ⟨resOf vs', ?_, ?_⟩
  · rw [results_eq, Array.mapM_eq_mapM_toList]
    simp only [Sem.run_bind, Sem.run_map, h1, Result.andThen_ok, Sem.run_pure]
    congr 1
    match vs' with
    | [] => rfl
    | [v] => rfl
    | a :: b :: l => simp [resOf]
  · match vs, vs', h2 with
    | [], vs', h2 => rw [h2.inv_nil]; exact .mkTup .nil
    | [v], vs', h2 =>
      obtain ⟨v', r, rfl, h3, h4⟩ := h2.inv_cons
      rw [h4.inv_nil]; exact h3
    | a :: b :: l, vs', h2 =>
      have h2' := h2
      obtain ⟨a', r, rfl, h3, h4⟩ := h2.inv_cons
      obtain ⟨b', r', rfl, h5, h6⟩ := h4.inv_cons
      exact .mkTup h2'
/-! unwinding -/
theorem unw_step {P : Program} {fr : Frame} {cs : List Frame} {w : World} {d : Deferred} {ds : List Deferred} {f : FuncId} {args : Array Value} (hd : fr.defers = d :: ds) (hm : fr.mode ≠ .run) (hnc : ∀ r, d.target ≠ .collected r) (hnn : ¬ ((d.target matches .nil) && (fr.mode matches .panicking _)) = true)
    (hr : (invoke d.target d.args).run P w = .ok (.enter f args) w) : step P (lone fr cs w) = .next (lone (Frame.enter P f args .deferred) ({ fr with defers := ds } :: cs) w) := by
  refine step_lone_go ?_
  obtain ⟨fn, tmps, todo, defers, mode, kind, ro⟩ := fr
  simp only at hd hm hnn
  subst hd
  obtain ⟨tg, ag⟩ := d
  cases mode with
  | run => exact absurd rfl hm
  | returning =>
    cases tg <;> first | exact absurd rfl (hnc _) | (simp only [stepG, unwind, callDeferred]; simp [hr])
  | panicking ch =>
    cases tg <;> first | exact absurd rfl (hnc _) | (simp [stepG, unwind, callDeferred, hr] at hnn ⊢)
end
end Go.Proofs.YtohgenhjdgdkgaaGreatDoor.Sh
