import Derived.Test.YtohgenhjdgdkgaaGreatDoorShSO
namespace Go.Proofs.YtohgenhjdgdkgaaGreatDoor.Sh
open Go.RowKit
set_option linter.unusedVariables false
set_option linter.unusedSimpArgs false

/-! ### lists of operations, code, calls -/
noncomputable abbrev CC := IH → F Value → Fx → AH → KN → KX → Bool
/-- The slot of an operation is written. -/
noncomputable def putB (nt : Nat) (d : Option Tmp) : Box (F Value → Value → F Value) :=
  match d with
  | none => ⟨fun tm _ => tm⟩
  | some d => Bool.rec (motive := fun _ => Box (F Value → Value → F Value)) ⟨fun tm _ => tm⟩ (fsB d) (Nat.blt d nt)
theorem putB_spec (fx : Fx) (nt : Nat) (d : Option Tmp) (tm : F Value) (v : Value) : (fx.fr nt tm).put d v = fx.fr nt ((putB nt d).f tm v) := by
  cases d with
  | none => rfl
  | some d =>
    show (match Nat.blt d nt with | true => { fx.fr nt tm with tm := tm.set undef d v } | false => fx.fr nt tm) = fx.fr nt ((Bool.rec (motive := fun _ => Box (F Value → Value → F Value)) ⟨fun tm _ => tm⟩ (fsB d) (Nat.blt d nt)).f tm v)
    cases Nat.blt d nt <;> rfl
noncomputable def retK (next : CC) (pt : F Value → Value → F Value) (ih : IH) (tm : F Value) (fx : Fx) (kn : KN) (kx : KX) (r : CR) (H : AH) (rc : Bool) : Bool :=
  Bool.rec (motive := fun _ => Bool) (CR.rec (motive := fun _ => Bool) (fun v => next ih (pt tm v) fx H kn kx) (fun v => kx (.panic v) tm fx H) r) false rc
/-- A call: of slices.Insert, or of what is run. -/
noncomputable def icall (E : FEnv) (ih : IH) (f : FuncId) (args : List Value) (H : AH) (k : KF) : Bool :=
  match E.ins f with
  | none => ih.call f args H none k
  | some ty => match aIns E.toEnv ty args H with
    | some (v, H') => k (.ret v) H' false
    | none => false
noncomputable def rareK (E : FEnv) (next : CC) (pt : F Value → Value → F Value) (ih : IH) (tm : F Value) (fx : Fx) (kn : KN) (kx : KX) (an : AN) (H : AH) : Bool :=
  match an with
  | .val v => next ih (pt tm v) fx H kn kx
  | .skip => next ih (pt tm undef) fx H kn kx
  | .enter (.fn f) args => icall E ih f args H (retK next pt ih tm fx kn kx)
  | .enter (.yl l) args => ih.round l args H (retK next pt ih tm fx kn kx)
  | .defer f a c => match fx.rnd with
    | none => next ih (pt tm undef) { fx with df := .call f a c :: fx.df } H kn kx
    | some _ => false
  | .recover => match fx.rnd, fx.pk, fx.rc with
    | none, some v, false => next ih (pt tm v) { fx with pk := none, rc := true } H kn kx
    | none, none, _ => next ih (pt tm .nilIface) fx H kn kx
    | _, _, _ => false
  | .panic v => kx (.panic v) tm fx H
noncomputable def cOp1 (E : FEnv) (nt : Nat) (o : Oper) (next : CC) : Box CC :=
  Box.rec (motive := fun _ => Box CC) (fun op => Box.rec (motive := fun _ => Box CC) (fun pt => ⟨fun ih tm fx H kn kx => op tm H (fun v H => next ih (pt tm v) fx H kn kx) (rareK E next pt ih tm fx kn kx)⟩) (putB nt o.dst)) (opK E o.op)
noncomputable def cOper (E : FEnv) (nt : Nat) (all : List Oper) (o : Oper) (next : CC) : Box CC :=
  match o.guard with
  | none => cOp1 E nt o next
  | some (j, want) => Box.rec (motive := fun _ => Box CC) (fun pt => match all[j]? with
    | some oj => match oj.dst with
      | some d => Box.rec (motive := fun _ => Box CC) (fun g => Box.rec (motive := fun _ => Box CC) (fun f => match want with
        | true => ⟨fun ih tm fx H kn kx => selV (g undef tm) (f ih tm fx H kn kx) (next ih (pt tm undef) fx H kn kx) (next ih (pt tm undef) fx H kn kx)⟩
        | false => ⟨fun ih tm fx H kn kx => selV (g undef tm) (next ih (pt tm undef) fx H kn kx) (f ih tm fx H kn kx) (next ih (pt tm undef) fx H kn kx)⟩) (cOp1 E nt o next)) (fgB d)
      | none => ⟨fun ih tm fx H kn kx => next ih (pt tm undef) fx H kn kx⟩
    | none => ⟨fun ih tm fx H kn kx => next ih (pt tm undef) fx H kn kx⟩) (putB nt o.dst)
noncomputable def cOps (E : FEnv) (nt : Nat) (all : List Oper) (l : List Oper) : Box CC :=
  List.rec (motive := fun _ => Box CC) ⟨fun ih tm fx H kn kx => kn tm fx H⟩ (fun o _ N => Box.rec (motive := fun _ => Box CC) (fun next => cOper E nt all o next) N) l
section
variable {E : FEnv} {ih : IH} {r : Task → Option TOut}
theorem call_spec (hr : Rep ih r) (f : FuncId) (args : List Value) (H : AH) (k : KF) : icall E ih f args H k = match callOf E r (.fn f) args H none with | some (c, H', rc) => k c H' rc | none => false := by
  unfold icall callOf
  show (match E.ins f with
    | none => ih.call f args H none k
    | some ty => match aIns E.toEnv ty args H with
      | some (v, H') => k (.ret v) H' false
      | none => false) = match (match E.ins f with
    | some ty => match aIns E.toEnv ty args H with
      | some (v, H') => some (CR.ret v, H', false)
      | none => none
    | none => match r (.call f args H none) with | some (.fin r H' rc) => some (r, H', rc) | _ => none) with | some (c, H', rc) => k c H' rc | none => false
  cases E.ins f with
  | none =>
    simp only
    rw [hr.call]
    cases r (.call f args H none) with
    | none => rfl
    | some o => cases o <;> rfl
  | some ty =>
    simp only
    rcases aIns E.toEnv ty args H with _ | ⟨v, H'⟩ <;> rfl
theorem round_spec (hr : Rep ih r) (l : Nat) (args : List Value) (H : AH) (pk : Option Value) (k : KF) : ih.round l args H k = match callOf E r (.yl l) args H pk with | some (c, H', rc) => k c H' rc | none => false := by
  rw [hr.round]
  unfold callOf
  show finK (r (.round l args H)) k = match (match r (.round l args H) with | some (.fin r H' rc) => some (r, H', rc) | _ => none) with | some (c, H', rc) => k c H' rc | none => false
  cases r (.round l args H) with
  | none => rfl
  | some o => cases o <;> rfl
theorem cOp1_spec (hr : Rep ih r) (nt : Nat) (all : List Oper) (o : Oper) (rest : List Oper) (next : CC) (hn : ∀ tm fx H kn kx, next ih tm fx H kn kx = outK (ofOps (evOps E (callOf E r) all rest (fx.fr nt tm) H)) kn kx) (tm : F Value) (fx : Fx) (H : AH) (kn : KN) (kx : KX) (hw : wantedB all tm o = true) :
    (cOp1 E nt o next).f ih tm fx H kn kx = outK (ofOps (evOps E (callOf E r) all (o :: rest) (fx.fr nt tm) H)) kn kx := by
  have h0 : (cOp1 E nt o next).f ih tm fx H kn kx = (opK E o.op).f tm H (fun v H => next ih ((putB nt o.dst).f tm v) fx H kn kx) (rareK E next (putB nt o.dst).f ih tm fx kn kx) := rfl
  have hp := putB_spec fx nt o.dst tm
  rw [h0, opK_spec]
  generalize (putB nt o.dst).f = pt at hp ⊢
  have hw' : wantedB all (fx.fr nt tm).tm o = true := hw
  conv => rhs; unfold evOps
  rw [hw']
  simp only
  show anK (aop E (evF tm H.g0) o.op H) _ _ = outK (ofOps (match aop E (evF tm H.g0) o.op H with
      | some (.val v, H') => evOps E (callOf E r) all rest ((fx.fr nt tm).put o.dst v) H'
      | some (.skip, H') => evOps E (callOf E r) all rest ((fx.fr nt tm).put o.dst undef) H'
      | some (.enter f args, H') => match callOf E r f args H' none with
        | some (.ret v, H2, false) => evOps E (callOf E r) all rest ((fx.fr nt tm).put o.dst v) H2
        | some (.pan v, H2, false) => some (.panic v, fx.fr nt tm, H2)
        | _ => none
      | some (.defer f a c, H') => match fx.rnd with
        | none => evOps E (callOf E r) all rest (Fr.put { fx.fr nt tm with df := .call f a c :: fx.df } o.dst undef) H'
        | some _ => none
      | some (.recover, H') => match fx.rnd, fx.pk, fx.rc with
        | none, some v, false => evOps E (callOf E r) all rest (Fr.put { fx.fr nt tm with pk := none, rc := true } o.dst v) H'
        | none, none, _ => evOps E (callOf E r) all rest ((fx.fr nt tm).put o.dst .nilIface) H'
        | _, _, _ => none
      | some (.panic v, H') => some (.panic v, fx.fr nt tm, H')
      | none => none)) kn kx
  have hp2 : ∀ (x : Fx) (v : Value), (x.fr nt tm).put o.dst v = x.fr nt (pt tm v) := by
    intro x v
    have q := hp v
    have e1 : ∀ (y : Fx) (d : Option Tmp), ((y.fr nt tm).put d v) = y.fr nt (((fx.fr nt tm).put d v).tm) := by
      intro y d
      cases d with
      | none => rfl
      | some d =>
        show (match Nat.blt d nt with | true => { y.fr nt tm with tm := tm.set undef d v } | false => y.fr nt tm) = y.fr nt (Fr.tm (match Nat.blt d nt with | true => { fx.fr nt tm with tm := tm.set undef d v } | false => fx.fr nt tm))
        cases Nat.blt d nt <;> rfl
    rw [e1, q]; rfl
  rcases aop E (evF tm H.g0) o.op H with _ | ⟨an, H'⟩
  · rfl
  cases an with
  | val v => simp only [hp2]; exact hn _ _ _ _ _
  | skip => simp only [hp2]; exact hn _ _ _ _ _
  | enter f args =>
    cases f with
    | fn f =>
      show icall E ih f args H' (retK next pt ih tm fx kn kx) = _
      rw [call_spec hr]
      simp only
      rcases callOf E r (.fn f) args H' none with _ | ⟨c, H2, rc⟩
      · rfl
      cases rc with
      | true => cases c <;> rfl
      | false =>
        cases c with
        | ret v => simp only [hp2]; exact hn _ _ _ _ _
        | pan v => rfl
    | yl l =>
      show ih.round l args H' (retK next pt ih tm fx kn kx) = _
      rw [round_spec hr l args H' none]
      simp only
      rcases callOf E r (.yl l) args H' none with _ | ⟨c, H2, rc⟩
      · rfl
      cases rc with
      | true => cases c <;> rfl
      | false =>
        cases c with
        | ret v => simp only [hp2]; exact hn _ _ _ _ _
        | pan v => rfl
  | defer f a c =>
    show rareK E next pt ih tm fx kn kx (.defer f a c) H' = _
    obtain ⟨df, pk, rc, rnd⟩ := fx
    cases rnd with
    | some l => rfl
    | none =>
      simp only
      rw [show ({ (Fx.fr ⟨df, pk, rc, none⟩ nt tm) with df := .call f a c :: df } : Fr) = Fx.fr ⟨.call f a c :: df, pk, rc, none⟩ nt tm from rfl, hp2]
      exact hn _ _ _ _ _
  | recover =>
    show rareK E next pt ih tm fx kn kx .recover H' = _
    obtain ⟨df, pk, rc, rnd⟩ := fx
    cases rnd with
    | some l => cases pk <;> rfl
    | none =>
      cases pk with
      | none => simp only [hp2]; exact hn _ _ _ _ _
      | some v =>
        cases rc with
        | true => rfl
        | false =>
          simp only
          rw [show ({ (Fx.fr ⟨df, some v, false, none⟩ nt tm) with pk := none, rc := true } : Fr) = Fx.fr ⟨df, none, true, none⟩ nt tm from rfl, hp2]
          exact hn _ _ _ _ _
  | panic v => rfl
theorem cOps_spec (hr : Rep ih r) (nt : Nat) (all : List Oper) : ∀ (l : List Oper) (tm : F Value) (fx : Fx) (H : AH) (kn : KN) (kx : KX), (cOps E nt all l).f ih tm fx H kn kx = outK (ofOps (evOps E (callOf E r) all l (fx.fr nt tm) H)) kn kx := by
  intro l
  induction l with
  | nil => intro tm fx H kn kx; rfl
  | cons o rest hn =>
    intro tm fx H kn kx
    show (cOper E nt all o (cOps E nt all rest).f).f ih tm fx H kn kx = _
    generalize (cOps E nt all rest).f = next at hn ⊢
    have hskip : wantedB all tm o = false → next ih ((putB nt o.dst).f tm undef) fx H kn kx = outK (ofOps (evOps E (callOf E r) all (o :: rest) (fx.fr nt tm) H)) kn kx := by
      intro hw
      conv => rhs; unfold evOps
      rw [show wantedB all (fx.fr nt tm).tm o = false from hw]
      simp only
      rw [putB_spec]
      exact hn _ _ _ _ _
    have hrun := cOp1_spec (E := E) hr nt all o rest next hn tm fx H kn kx
    unfold cOper
    cases hg : o.guard with
    | none =>
      simp only
      exact hrun (by unfold wantedB; rw [hg])
    | some jw =>
      obtain ⟨j, want⟩ := jw
      simp only
      cases hj : all[j]? with
      | none =>
        simp only
        exact hskip (by unfold wantedB; rw [hg]; simp only; rw [hj])
      | some oj =>
        simp only
        cases hd : oj.dst with
        | none =>
          simp only
          exact hskip (by unfold wantedB; rw [hg]; simp only; rw [hj]; simp only; rw [hd])
        | some d =>
          simp only
          have hwb : wantedB all tm o = match tm.get undef d with | .bool b => boolEq b want | _ => false := by
            unfold wantedB; rw [hg]; simp only; rw [hj]; simp only; rw [hd]; rfl
          cases want with
          | true =>
            show selV (tm.get undef d) ((cOp1 E nt o next).f ih tm fx H kn kx) (next ih ((putB nt o.dst).f tm undef) fx H kn kx) (next ih ((putB nt o.dst).f tm undef) fx H kn kx) = _
            rw [selV_eq]
            split
            · rename_i hv; rw [hv] at hwb; exact hrun hwb
            · rename_i hv; rw [hv] at hwb; exact hskip hwb
            · rename_i h1 h2
              refine hskip (hwb.trans ?_)
              split
              · rename_i b hb; cases b <;> first | exact (h1 hb).elim | exact (h2 hb).elim
              · rfl
          | false =>
            show selV (tm.get undef d) (next ih ((putB nt o.dst).f tm undef) fx H kn kx) ((cOp1 E nt o next).f ih tm fx H kn kx) (next ih ((putB nt o.dst).f tm undef) fx H kn kx) = _
            rw [selV_eq]
            split
            · rename_i hv; rw [hv] at hwb; exact hskip hwb
            · rename_i hv; rw [hv] at hwb; exact hrun hwb
            · rename_i h1 h2
              refine hskip (hwb.trans ?_)
              split
              · rename_i b hb; cases b <;> first | exact (h1 hb).elim | exact (h2 hb).elim
              · rfl
end
end Go.Proofs.YtohgenhjdgdkgaaGreatDoor.Sh
