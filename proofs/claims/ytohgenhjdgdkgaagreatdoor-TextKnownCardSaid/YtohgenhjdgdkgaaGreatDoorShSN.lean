import Derived.Test.YtohgenhjdgdkgaaGreatDoorShSM
namespace Go.Proofs.YtohgenhjdgdkgaaGreatDoor.Sh
open Go.RowKit
set_option linter.unusedVariables false
set_option linter.unusedSimpArgs false

/-! ### code by its own structure: the fuel is spent at loops and calls alone -/
noncomputable def evC (E : FEnv) (drawn : CallT → List Oper → Fr → AH → Option (Ex × Fr × AH)) (rec : Task → Option TOut) : Code → Fr → AH → Option TOut
  | .skip, fr, H => some (.out .normal fr H)
  | .label _, fr, H => some (.out .normal fr H)
  | .region _ ops draw, fr, H => match draw with
    | false => ofOps (evOps E (callOf E rec) ops.toList ops.toList fr H)
    | true => ofOps (drawn (callOf E rec) ops.toList fr H)
  | .seq a b, fr, H => match evC E drawn rec a fr H with
    | some (.out .normal fr H) => evC E drawn rec b fr H
    | some (.out e fr H) => some (.out e fr H)
    | _ => none
  | .cond x a b, fr, H => match evF fr.tm H.g0 x with
    | some (.bool true) => evC E drawn rec a fr H
    | some (.bool false) => evC E drawn rec b fr H
    | _ => none
  | .block id c, fr, H => match evC E drawn rec c fr H with
    | some (.out (.exit id') fr H) => match Nat.beq id' id with
      | true => some (.out .normal fr H)
      | false => some (.out (.exit id') fr H)
    | some (.out e fr H) => some (.out e fr H)
    | _ => none
  | .loop c, fr, H => match evC E drawn rec c fr H with
    | some (.out .normal fr H) => rec (.again c fr H)
    | some (.out e fr H) => some (.out e fr H)
    | _ => none
  | .scope c, fr, H => runScope rec c (evC E drawn rec c fr H)
  | .goto l, fr, H => some (.out (.goto l) fr H)
  | .exit id, fr, H => some (.out (.exit id) fr H)
  | .ret, fr, H => some (.out .ret fr H)
  | .rangeFunc f ps x y, fr, H => runRange E rec f ps x y fr H
  | _, _, _ => none
section
variable {E : FEnv} {drawn : CallT → List Oper → Fr → AH → Option (Ex × Fr × AH)} {rec : Task → Option TOut}
/-- Tasks of some codes are run by another evaluator. -/
noncomputable def withC (S : Code → Prop) (g : Code → Fr → AH → Option TOut) (rec : Task → Option TOut) : Task → Option TOut
  | .code c fr H => haveI := Classical.propDecidable (S c); if S c then g c fr H else none
  | t => rec t
theorem withC_ok {S : Code → Prop} {g : Code → Fr → AH → Option TOut} (hr : RecOK E rec) (hg : ∀ c, S c → ∀ fr H o, g c fr H = some o → TaskOK E (.code c fr H) o) : RecOK E (withC S g rec) := by
  intro t o h
  cases t with
  | code c fr H =>
    unfold withC at h
    simp only at h
    split at h
    · rename_i hs; exact hg c hs fr H o h
    · cases h
  | again c fr H => exact hr _ _ h
  | call f args H pk => exact hr _ _ h
  | unw m fn fr H => exact hr _ _ h
  | round l args H => exact hr _ _ h
  | inSc c r fr H => exact hr _ _ h
theorem withC_code {S : Code → Prop} {g : Code → Fr → AH → Option TOut} {c : Code} (hs : S c) (fr : Fr) (H : AH) : withC S g rec (.code c fr H) = g c fr H := by
  unfold withC
  simp only
  rw [if_pos hs]
theorem evC_ok (hE : E.OK) (hd : DrawnOK E drawn) (hr : RecOK E rec) : ∀ (c : Code) (fr : Fr) (H : AH) (o : TOut), evC E drawn rec c fr H = some o → TaskOK E (.code c fr H) o := by
  intro c
  induction c with
  | skip => intro fr H o h; exact code_ok hE hr hd _ _ _ _ h
  | label l => intro fr H o h; exact code_ok hE hr hd _ _ _ _ h
  | region id ops draw => intro fr H o h; exact code_ok hE hr hd _ _ _ _ h
  | seq a b iha ihb =>
    intro fr H o h
    have hr' := withC_ok (S := fun c => c = a ∨ c = b) (g := evC E drawn rec) hr (fun c hc => by rcases hc with rfl | rfl <;> assumption)
    refine code_ok hE hr' hd _ _ _ _ ?_
    rw [← h]
    show (match withC (fun c => c = a ∨ c = b) (evC E drawn rec) rec (.code a fr H) with
      | some (.out .normal fr H) => withC (fun c => c = a ∨ c = b) (evC E drawn rec) rec (.code b fr H)
      | some (.out e fr H) => some (.out e fr H)
      | _ => none) = evC E drawn rec (.seq a b) fr H
    simp only [withC_code (S := fun c => c = a ∨ c = b) (c := a) (.inl rfl), withC_code (S := fun c => c = a ∨ c = b) (c := b) (.inr rfl)]
    rfl
  | cond x a b iha ihb =>
    intro fr H o h
    have hr' := withC_ok (S := fun c => c = a ∨ c = b) (g := evC E drawn rec) hr (fun c hc => by rcases hc with rfl | rfl <;> assumption)
    refine code_ok hE hr' hd _ _ _ _ ?_
    rw [← h]
    show (match evF fr.tm H.g0 x with
      | some (.bool true) => withC (fun c => c = a ∨ c = b) (evC E drawn rec) rec (.code a fr H)
      | some (.bool false) => withC (fun c => c = a ∨ c = b) (evC E drawn rec) rec (.code b fr H)
      | _ => none) = evC E drawn rec (.cond x a b) fr H
    simp only [withC_code (S := fun c => c = a ∨ c = b) (c := a) (.inl rfl), withC_code (S := fun c => c = a ∨ c = b) (c := b) (.inr rfl)]
    rfl
  | block id c ih =>
    intro fr H o h
    have hr' := withC_ok (S := fun c' => c' = c) (g := evC E drawn rec) hr (fun c' hc => by subst hc; exact ih)
    refine code_ok hE hr' hd _ _ _ _ ?_
    rw [← h]
    show (match withC (fun c' => c' = c) (evC E drawn rec) rec (.code c fr H) with
      | some (.out (.exit id') fr H) => match Nat.beq id' id with
        | true => some (.out .normal fr H)
        | false => some (.out (.exit id') fr H)
      | some (.out e fr H) => some (.out e fr H)
      | _ => none) = evC E drawn rec (.block id c) fr H
    rw [withC_code (S := fun c' => c' = c) rfl]
    rfl
  | loop c ih =>
    intro fr H o h
    have hr' := withC_ok (S := fun c' => c' = c) (g := evC E drawn rec) hr (fun c' hc => by subst hc; exact ih)
    refine code_ok hE hr' hd _ _ _ _ ?_
    rw [← h]
    show (match withC (fun c' => c' = c) (evC E drawn rec) rec (.code c fr H) with
      | some (.out .normal fr H) => withC (fun c' => c' = c) (evC E drawn rec) rec (.again c fr H)
      | some (.out e fr H) => some (.out e fr H)
      | _ => none) = evC E drawn rec (.loop c) fr H
    rw [withC_code (S := fun c' => c' = c) rfl]
    rfl
  | scope c ih =>
    intro fr H o h
    have hr' := withC_ok (S := fun c' => c' = c) (g := evC E drawn rec) hr (fun c' hc => by subst hc; exact ih)
    refine code_ok hE hr' hd _ _ _ _ ?_
    rw [← h]
    show runScope (withC (fun c' => c' = c) (evC E drawn rec) rec) c (withC (fun c' => c' = c) (evC E drawn rec) rec (.code c fr H)) = evC E drawn rec (.scope c) fr H
    rw [withC_code (S := fun c' => c' = c) rfl]
    rfl
  | exit id => intro fr H o h; exact code_ok hE hr hd _ _ _ _ h
  | ret => intro fr H o h; exact code_ok hE hr hd _ _ _ _ h
  | rangeFunc f ps x y _ _ => intro fr H o h; exact code_ok hE hr hd _ _ _ _ h
  | goto l => intro fr H o h; exact code_ok hE hr hd _ _ _ _ h
  | refuse why => intro fr H o h; cases h
end
/-- One round. -/
noncomputable def evU (E : FEnv) (rec : Task → Option TOut) (m : Option Value) (fn : Func) (fr : Fr) (H : AH) : Option TOut := unwD E rec m fn fr H fr.df
noncomputable def evA (E : FEnv) (drawn : CallT → List Oper → Fr → AH → Option (Ex × Fr × AH)) (rec : Task → Option TOut) (c : Code) (fr : Fr) (H : AH) : Option TOut :=
  match evC E drawn rec c fr H with
  | some (.out .normal fr H) => rec (.again c fr H)
  | some (.out e fr H) => some (.out e fr H)
  | _ => none
noncomputable def evK (E : FEnv) (drawn : CallT → List Oper → Fr → AH → Option (Ex × Fr × AH)) (rec : Task → Option TOut) (f : FuncId) (args : List Value) (H : AH) (pk : Option Value) : Option TOut :=
  match E.fn f with
  | some fn => match fn.body with
    | some c => match Nat.ble args.length fn.ntmps with
      | true => match evC E drawn rec c ⟨tmOf args 0 .lf, fn.ntmps, [], pk, false, none⟩ H with
        | some (.out .normal fr H) => evU E rec none fn fr H
        | some (.out .ret fr H) => evU E rec none fn fr H
        | some (.out (.panic v) fr H) => evU E rec (some v) fn fr H
        | _ => none
      | false => none
    | none => none
  | none => none
/-- A round, its code by its own structure. -/
noncomputable def evR (E : FEnv) (drawn : CallT → List Oper → Fr → AH → Option (Ex × Fr × AH)) (rec : Task → Option TOut) (l : Nat) (args : List Value) (H : AH) : Option TOut :=
  match H.obj l with
  | .loop L => match Nat.beq args.length L.ps.size with
    | true => match evC E drawn rec L.asg ⟨putAll L.nt L.ps.toList args L.tm, L.nt, [], none, false, some l⟩ H with
      | some (.out .normal fr1 H1) => match fr1.rc, H1.obj l with
        | false, .loop L1 => match readyB L1.st with
          | true => match evC E drawn rec L.bd fr1 (H1.setLoop l { L1 with st := .busy }) with
            | some (.out e fr2 H2) => match fr2.rc, e with
              | false, .normal => endRnd l none H2
              | false, .exit id => endRnd l (some (.exit id)) H2
              | false, .ret => endRnd l (some .ret) H2
              | _, _ => none
            | _ => none
          | false => none
        | _, _ => none
      | _ => none
    | false => none
  | _ => none
noncomputable def body2 (E : FEnv) (drawn : CallT → List Oper → Fr → AH → Option (Ex × Fr × AH)) (rec : Task → Option TOut) : Task → Option TOut
  | .code c fr H => evC E drawn rec c fr H
  | .again c fr H => evA E drawn rec c fr H
  | .call f args H pk => evK E drawn rec f args H pk
  | .unw m fn fr H => evU E rec m fn fr H
  | .round l args H => evR E drawn rec l args H
  | .inSc c r fr H => runScope rec c (evC E drawn rec r fr H)
noncomputable def ev2 (E : FEnv) (drawn : CallT → List Oper → Fr → AH → Option (Ex × Fr × AH)) (n : Nat) : Task → Option TOut :=
  Nat.rec (motive := fun _ => Task → Option TOut) (fun _ => none) (fun _ ih t => body2 E drawn ih t) n
section
variable {E : FEnv} {drawn : CallT → List Oper → Fr → AH → Option (Ex × Fr × AH)} {rec : Task → Option TOut}
noncomputable def withU (g : Task → Option TOut) (rec : Task → Option TOut) : Task → Option TOut
  | .code c fr H => g (.code c fr H)
  | .unw m fn fr H => g (.unw m fn fr H)
  | t => rec t
theorem body2_ok (hE : E.OK) (hd : DrawnOK E drawn) (hr : RecOK E rec) : RecOK E (body2 E drawn rec) := by
  have hC : ∀ (c : Code) (fr : Fr) (H : AH) (o : TOut), evC E drawn rec c fr H = some o → TaskOK E (.code c fr H) o := evC_ok hE hd hr
  have hU : ∀ (m : Option Value) (fn : Func) (fr : Fr) (H : AH) (o : TOut), evU E rec m fn fr H = some o → TaskOK E (.unw m fn fr H) o := fun m fn fr H o h => unw_ok (drawn := drawn) hE hr m fn fr H o h
  have hr' : RecOK E (withU (body2 E drawn rec) rec) := by
    intro t o h
    cases t with
    | code c fr H => exact hC c fr H o h
    | again c fr H => exact hr _ _ h
    | call f args H pk => exact hr _ _ h
    | unw m fn fr H => exact hU m fn fr H o h
    | round l args H => exact hr _ _ h
    | inSc c r fr H => exact hr _ _ h
  intro t o h
  cases t with
  | code c fr H => exact hC c fr H o h
  | again c fr H => exact again_ok (drawn := drawn) hr' c fr H o h
  | call f args H pk => exact call_ok (drawn := drawn) hE hr' f args H pk o h
  | unw m fn fr H => exact hU m fn fr H o h
  | round l args H => exact round_ok (drawn := drawn) hr' l args H o h
  | inSc c r fr H =>
    refine inSc_ok (drawn := drawn) hr' c r fr H o ?_
    rw [← h]
    show runScope (withU (body2 E drawn rec) rec) c (evC E drawn rec r fr H) = runScope rec c (evC E drawn rec r fr H)
    unfold runScope
    rfl
theorem ev2_ok (hE : E.OK) (hd : DrawnOK E drawn) : ∀ n, RecOK E (ev2 E drawn n) := by
  intro n
  induction n with
  | zero => intro t o h; cases h
  | succ n ih => exact body2_ok hE hd ih
end
end Go.Proofs.YtohgenhjdgdkgaaGreatDoor.Sh
