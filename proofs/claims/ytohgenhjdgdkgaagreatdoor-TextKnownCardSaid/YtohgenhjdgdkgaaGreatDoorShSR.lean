import Derived.Test.YtohgenhjdgdkgaaGreatDoorShSQ
namespace Go.Proofs.YtohgenhjdgdkgaaGreatDoor.Sh
open Go.RowKit
set_option linter.unusedVariables false
set_option linter.unusedSimpArgs false

/-! ### drawn regions -/
noncomputable abbrev KL := List (Value × AH) → F Value → AH → Bool
noncomputable abbrev KP := List (Value × AH) → F Value → AH → Value → AH → Bool
noncomputable abbrev PC := IH → F Value → AH → KL → KP → Bool
noncomputable def putW (d : Option Tmp) : Box (F Value → Value → F Value) :=
  match d with
  | none => ⟨fun tm _ => tm⟩
  | some d => fsB d
theorem putW_spec (d : Option Tmp) (tm : F Value) (v : Value) : (putW d).f tm v = match d with | some d => tm.set undef d v | none => tm := by cases d <;> rfl
noncomputable def retP (next : PC) (pt : F Value → Value → F Value) (ih : IH) (tm : F Value) (H0 : AH) (k : KL) (kp : KP) (r : CR) (H : AH) (rc : Bool) : Bool :=
  Bool.rec (motive := fun _ => Bool) (CR.rec (motive := fun _ => Bool) (fun v => next ih (pt tm v) H (fun l => k ((v, H0) :: l)) (fun l => kp ((v, H0) :: l))) (fun v => kp [] tm H0 v H) r) false rc
noncomputable def rareP (E : FEnv) (next : PC) (pt : F Value → Value → F Value) (ih : IH) (tm : F Value) (H0 : AH) (k : KL) (kp : KP) (an : AN) (H : AH) : Bool :=
  match an with
  | .val v => next ih (pt tm v) H (fun l => k ((v, H0) :: l)) (fun l => kp ((v, H0) :: l))
  | .skip => next ih (pt tm undef) H (fun l => k ((undef, H0) :: l)) (fun l => kp ((undef, H0) :: l))
  | .enter (.fn f) args => icall E ih f args H (retP next pt ih tm H0 k kp)
  | .enter (.yl l) args => ih.round l args H (retP next pt ih tm H0 k kp)
  | .panic v => kp [] tm H0 v H
  | _ => false
noncomputable def pOp1 (E : FEnv) (o : Oper) (next : PC) : Box PC :=
  Box.rec (motive := fun _ => Box PC) (fun op => Box.rec (motive := fun _ => Box PC) (fun pt => ⟨fun ih tm H k kp => op tm H (fun v H' => next ih (pt tm v) H' (fun l => k ((v, H) :: l)) (fun l => kp ((v, H) :: l))) (rareP E next pt ih tm H k kp)⟩) (putW o.dst)) (opK E o.op)
noncomputable def pOper (E : FEnv) (all : List Oper) (o : Oper) (next : PC) : Box PC :=
  match o.guard with
  | none => pOp1 E o next
  | some (j, want) => Box.rec (motive := fun _ => Box PC) (fun pt => match all[j]? with
    | some oj => match oj.dst with
      | some d => Box.rec (motive := fun _ => Box PC) (fun g => Box.rec (motive := fun _ => Box PC) (fun f => match want with
        | true => ⟨fun ih tm H k kp => selV (g undef tm) (f ih tm H k kp) (next ih (pt tm undef) H (fun l => k ((undef, H) :: l)) (fun l => kp ((undef, H) :: l))) (next ih (pt tm undef) H (fun l => k ((undef, H) :: l)) (fun l => kp ((undef, H) :: l)))⟩
        | false => ⟨fun ih tm H k kp => selV (g undef tm) (next ih (pt tm undef) H (fun l => k ((undef, H) :: l)) (fun l => kp ((undef, H) :: l))) (f ih tm H k kp) (next ih (pt tm undef) H (fun l => k ((undef, H) :: l)) (fun l => kp ((undef, H) :: l)))⟩) (pOp1 E o next)) (fgB d)
      | none => ⟨fun ih tm H k kp => next ih (pt tm undef) H (fun l => k ((undef, H) :: l)) (fun l => kp ((undef, H) :: l))⟩
    | none => ⟨fun ih tm H k kp => next ih (pt tm undef) H (fun l => k ((undef, H) :: l)) (fun l => kp ((undef, H) :: l))⟩) (putW o.dst)
noncomputable def pOps (E : FEnv) (all : List Oper) (l : List Oper) : Box PC :=
  List.rec (motive := fun _ => Box PC) ⟨fun ih tm H k kp => k [] tm H⟩ (fun o _ N => Box.rec (motive := fun _ => Box PC) (fun next => pOper E all o next) N) l
noncomputable def p1K (a : Option (List (Value × AH) × F Value × AH)) (b : Option (List (Value × AH) × F Value × AH × Value × AH)) (k : KL) (kp : KP) : Bool :=
  match a with
  | some (l, t, h) => k l t h
  | none => match b with
    | some (l, t, h, v, h2) => kp l t h v h2
    | none => false
section
variable {E : FEnv} {ih : IH} {r : Task → Option TOut}
theorem p1K_cons (u : Value × AH) (a : Option (List (Value × AH) × F Value × AH)) (b : Option (List (Value × AH) × F Value × AH × Value × AH)) (k : KL) (kp : KP) :
    p1K a b (fun l => k (u :: l)) (fun l => kp (u :: l)) = p1K (match a with | some (l, x) => some (u :: l, x) | none => none) (match b with | some (l, x) => some (u :: l, x) | none => none) k kp := by
  rcases a with _ | ⟨l, t, h⟩
  · rcases b with _ | ⟨l, t, h, v, h2⟩ <;> rfl
  · rfl
theorem pOp1_spec (hr : Rep ih r) (all : List Oper) (o : Oper) (rest : List Oper) (next : PC) (hn : ∀ tm H k kp, next ih tm H k kp = p1K (pass1 E (callOf E r) all rest tm H) (pass1P E (callOf E r) all rest tm H) k kp) (tm : F Value) (H : AH) (k : KL) (kp : KP) (hw : wantedB all tm o = true) :
    (pOp1 E o next).f ih tm H k kp = p1K (pass1 E (callOf E r) all (o :: rest) tm H) (pass1P E (callOf E r) all (o :: rest) tm H) k kp := by
  have h0 : (pOp1 E o next).f ih tm H k kp = (opK E o.op).f tm H (fun v H' => next ih ((putW o.dst).f tm v) H' (fun l => k ((v, H) :: l)) (fun l => kp ((v, H) :: l))) (rareP E next (putW o.dst).f ih tm H k kp) := rfl
  have hp := putW_spec o.dst tm
  rw [h0, opK_spec]
  have ec : ∀ (a : Option (List (Value × AH) × F Value × AH)) (b : Option (List (Value × AH) × F Value × AH × Value × AH)) (u : Value) (H1 : AH) (tm1 : F Value), a = pass1 E (callOf E r) all rest tm1 H1 → b = pass1P E (callOf E r) all rest tm1 H1 → tm1 = (putW o.dst).f tm u →
      next ih ((putW o.dst).f tm u) H1 (fun l => k ((u, H) :: l)) (fun l => kp ((u, H) :: l)) = p1K (match a with | some (l, x) => some ((u, H) :: l, x) | none => none) (match b with | some (l, x) => some ((u, H) :: l, x) | none => none) k kp := by
    intro a b u H1 tm1 h1 h2 h3
    subst h1 h2 h3
    exact (hn _ _ _ _).trans (p1K_cons (u, H) _ _ k kp)
  conv => rhs; unfold pass1 pass1P
  rw [hw]
  simp only
  rcases aop E (evF tm H.g0) o.op H with _ | ⟨an, H'⟩
  · rfl
  cases an with
  | val v => exact ec _ _ v H' _ rfl rfl (hp v).symm
  | skip => exact ec _ _ undef H' _ rfl rfl (hp undef).symm
  | enter f args =>
    cases f with
    | fn f =>
      show icall E ih f args H' (retP next (putW o.dst).f ih tm H k kp) = _
      rw [call_spec hr]
      simp only
      rcases callOf E r (.fn f) args H' none with _ | ⟨c, H2, rc⟩
      · rfl
      cases rc with
      | true => cases c <;> rfl
      | false =>
        cases c with
        | ret v => exact ec _ _ v H2 _ rfl rfl (hp v).symm
        | pan v => rfl
    | yl l =>
      show ih.round l args H' (retP next (putW o.dst).f ih tm H k kp) = _
      rw [round_spec hr l args H' none]
      simp only
      rcases callOf E r (.yl l) args H' none with _ | ⟨c, H2, rc⟩
      · rfl
      cases rc with
      | true => cases c <;> rfl
      | false =>
        cases c with
        | ret v => exact ec _ _ v H2 _ rfl rfl (hp v).symm
        | pan v => rfl
  | defer f a c => rfl
  | recover => rfl
  | panic v => rfl
theorem pOps_spec (hr : Rep ih r) (all : List Oper) : ∀ (l : List Oper) (tm : F Value) (H : AH) (k : KL) (kp : KP), (pOps E all l).f ih tm H k kp = p1K (pass1 E (callOf E r) all l tm H) (pass1P E (callOf E r) all l tm H) k kp := by
  intro l
  induction l with
  | nil => intro tm H k kp; rfl
  | cons o rest hn =>
    intro tm H k kp
    show (pOper E all o (pOps E all rest).f).f ih tm H k kp = _
    generalize (pOps E all rest).f = next at hn ⊢
    have hskip : wantedB all tm o = false → next ih ((putW o.dst).f tm undef) H (fun l => k ((undef, H) :: l)) (fun l => kp ((undef, H) :: l)) = p1K (pass1 E (callOf E r) all (o :: rest) tm H) (pass1P E (callOf E r) all (o :: rest) tm H) k kp := by
      intro hw
      conv => rhs; unfold pass1 pass1P
      rw [hw]
      simp only
      have ec : ∀ (a : Option (List (Value × AH) × F Value × AH)) (b : Option (List (Value × AH) × F Value × AH × Value × AH)) (tm1 : F Value), a = pass1 E (callOf E r) all rest tm1 H → b = pass1P E (callOf E r) all rest tm1 H → tm1 = (putW o.dst).f tm undef →
          next ih ((putW o.dst).f tm undef) H (fun l => k ((undef, H) :: l)) (fun l => kp ((undef, H) :: l)) = p1K (match a with | some (l, x) => some ((undef, H) :: l, x) | none => none) (match b with | some (l, x) => some ((undef, H) :: l, x) | none => none) k kp := by
        intro a b tm1 h1 h2 h3
        subst h1 h2 h3
        exact (hn _ _ _ _).trans (p1K_cons (undef, H) _ _ k kp)
      exact ec _ _ _ rfl rfl (putW_spec o.dst tm undef).symm
    have hrun := pOp1_spec (E := E) hr all o rest next hn tm H k kp
    unfold pOper
    cases hg : o.guard with
    | none =>
      simp only
      exact hrun (by unfold wantedB; rw [hg])
    | some jw =>
      obtain ⟨j, want⟩ := jw
      simp only
      cases hj : all[j]? with
      | none =>
        simp only
        exact hskip (by unfold wantedB; rw [hg]; simp only; rw [hj])
      | some oj =>
        simp only
        cases hd : oj.dst with
        | none =>
          simp only
          exact hskip (by unfold wantedB; rw [hg]; simp only; rw [hj]; simp only; rw [hd])
        | some d =>
          simp only
          have hwb : wantedB all tm o = match tm.get undef d with | .bool b => boolEq b want | _ => false := by
            unfold wantedB; rw [hg]; simp only; rw [hj]; simp only; rw [hd]; rfl
          cases want with
          | true =>
            show selV (tm.get undef d) ((pOp1 E o next).f ih tm H k kp) (next ih ((putW o.dst).f tm undef) H (fun l => k ((undef, H) :: l)) (fun l => kp ((undef, H) :: l))) (next ih ((putW o.dst).f tm undef) H (fun l => k ((undef, H) :: l)) (fun l => kp ((undef, H) :: l))) = _
            rw [selV_eq]
            split
            · rename_i hv; rw [hv] at hwb; exact hrun hwb
            · rename_i hv; rw [hv] at hwb; exact hskip hwb
            · rename_i h1 h2
              refine hskip (hwb.trans ?_)
              split
              · rename_i b hb; cases b <;> first | exact (h1 hb).elim | exact (h2 hb).elim
              · rfl
          | false =>
            show selV (tm.get undef d) (next ih ((putW o.dst).f tm undef) H (fun l => k ((undef, H) :: l)) (fun l => kp ((undef, H) :: l))) ((pOp1 E o next).f ih tm H k kp) (next ih ((putW o.dst).f tm undef) H (fun l => k ((undef, H) :: l)) (fun l => kp ((undef, H) :: l))) = _
            rw [selV_eq]
            split
            · rename_i hv; rw [hv] at hwb; exact hskip hwb
            · rename_i hv; rw [hv] at hwb; exact hrun hwb
            · rename_i h1 h2
              refine hskip (hwb.trans ?_)
              split
              · rename_i b hb; cases b <;> first | exact (h1 hb).elim | exact (h2 hb).elim
              · rfl
end
/-! the checks -/
noncomputable def chkN (E : FEnv) (ops : List Oper) (P R : List Nat) (L : List (Value × AH)) (tm tmF : F Value) (HF : AH) : Bool :=
  ((heapsBefore E ops R ops.length).all fun b => match L[rk R b]? with
        | some (_, Hb) => checkAt E ops P R L tm tmF ops.length b (rk R b) Hb
        | none => false) && checkAt E ops P R L tm tmF ops.length ops.length ops.length HF
noncomputable def chkP (E : FEnv) (ops : List Oper) (P ord R : List Nat) (L : List (Value × AH)) (tm tmP : F Value) (HP : AH) : Bool :=
  match ord[L.length]? with
  | some z => match ops[z]? with
    | some oz => isHeap E oz && !(movable oz.op) &&
          ((List.range ops.length).all fun i => !(Nat.blt L.length (rk R i)) || bitAt (P.getD i 0) z) &&
          ((heapsBefore E ops R (L.length + 1)).all fun b => match (L ++ List.replicate (ops.length - L.length) (undef, HP))[rk R b]? with
            | some (_, Hb) => checkAt E ops P R (L ++ List.replicate (ops.length - L.length) (undef, HP)) tm tmP L.length b (rk R b) Hb
            | none => false)
    | none => false
  | none => false
noncomputable def cDO (E : FEnv) (ops : List Oper) (P ord R : List Nat) : Box CC :=
  Box.rec (motive := fun _ => Box CC) (fun p1 => ⟨fun ih tm fx H kn kx => p1 ih tm H (fun L tmF HF => Bool.rec (motive := fun _ => Bool) false (kn tmF fx HF) (chkN E ops P R L tm tmF HF)) (fun L tmP HP v H' => Bool.rec (motive := fun _ => Bool) false (kx (.panic v) (wipe ops tm) fx H') (chkP E ops P ord R L tm tmP HP))⟩) (pOps E ops (permOps ops ord))
noncomputable def noC : Box CC := ⟨fun ih tm fx H kn kx => false⟩
noncomputable def cD (E : FEnv) (nt : Nat) (ops : List Oper) : Box CC :=
  match ltOK ops nt with
  | true => match statOK E ops (masks ops) (List.range ops.length) (ranks (List.range ops.length) ops.length) with
    | true => cDO E ops (masks ops) (List.range ops.length) (ranks (List.range ops.length) ops.length)
    | false => match statOK E ops (masks ops) (sinkGo ops (masks ops) (List.range ops.length) []) (ranks (sinkGo ops (masks ops) (List.range ops.length) []) ops.length) with
      | true => cDO E ops (masks ops) (sinkGo ops (masks ops) (List.range ops.length) []) (ranks (sinkGo ops (masks ops) (List.range ops.length) []) ops.length)
      | false => noC
  | false => noC
section
variable {E : FEnv} {ih : IH} {r : Task → Option TOut}
theorem cDO_spec (hr : Rep ih r) (nt : Nat) (ops : List Oper) (P ord R : List Nat) (tm : F Value) (fx : Fx) (H : AH) (kn : KN) (kx : KX) : (cDO E ops P ord R).f ih tm fx H kn kx = outK (ofOps (drawnO E (callOf E r) ops P ord R (fx.fr nt tm) H)) kn kx := by
  have h0 : (cDO E ops P ord R).f ih tm fx H kn kx = (pOps E ops (permOps ops ord)).f ih tm H (fun L tmF HF => Bool.rec (motive := fun _ => Bool) false (kn tmF fx HF) (chkN E ops P R L tm tmF HF)) (fun L tmP HP v H' => Bool.rec (motive := fun _ => Bool) false (kx (.panic v) (wipe ops tm) fx H') (chkP E ops P ord R L tm tmP HP)) := rfl
  rw [h0, pOps_spec hr]
  unfold drawnO
  show p1K (pass1 E (callOf E r) ops (permOps ops ord) tm H) _ _ _ = outK (ofOps (match pass1 E (callOf E r) ops (permOps ops ord) tm H with
  | some (L, tmF, HF) =>
    match chkN E ops P R L tm tmF HF with
    | true => some (.normal, { fx.fr nt tm with tm := tmF }, HF)
    | false => none
  | none => drawnP E (callOf E r) ops P ord R (fx.fr nt tm) H)) kn kx
  rcases pass1 E (callOf E r) ops (permOps ops ord) tm H with _ | ⟨L, tmF, HF⟩
  · unfold drawnP
    show (match pass1P E (callOf E r) ops (permOps ops ord) tm H with
      | some (l, t, h, v, h2) => Bool.rec (motive := fun _ => Bool) false (kx (.panic v) (wipe ops tm) fx h2) (chkP E ops P ord R l tm t h)
      | none => false) = outK (ofOps (match pass1P E (callOf E r) ops (permOps ops ord) tm H with
  | some (L, tmP, HP, v, H') => match ord[L.length]? with
    | some z => match ops[z]? with
      | some oz => match isHeap E oz && !(movable oz.op) &&
          ((List.range ops.length).all fun i => !(Nat.blt L.length (rk R i)) || bitAt (P.getD i 0) z) &&
          ((heapsBefore E ops R (L.length + 1)).all fun b => match (L ++ List.replicate (ops.length - L.length) (undef, HP))[rk R b]? with
            | some (_, Hb) => checkAt E ops P R (L ++ List.replicate (ops.length - L.length) (undef, HP)) tm tmP L.length b (rk R b) Hb
            | none => false) with
        | true => some (.panic v, { fx.fr nt tm with tm := wipe ops tm }, H')
        | false => none
      | none => none
    | none => none
  | none => none)) kn kx
    rcases pass1P E (callOf E r) ops (permOps ops ord) tm H with _ | ⟨L, tmP, HP, v, H'⟩
    · rfl
    · simp only
      unfold chkP
      cases ord[L.length]? with
      | none => rfl
      | some z =>
        simp only
        cases ops[z]? with
        | none => rfl
        | some oz =>
          simp only
          split <;> rename_i hq <;> rw [hq] <;> rfl
  · show Bool.rec (motive := fun _ => Bool) false (kn tmF fx HF) (chkN E ops P R L tm tmF HF) = outK (ofOps (match chkN E ops P R L tm tmF HF with
    | true => some (.normal, { fx.fr nt tm with tm := tmF }, HF)
    | false => none)) kn kx
    cases chkN E ops P R L tm tmF HF <;> rfl
theorem cD_spec (hr : Rep ih r) (nt : Nat) (ops : List Oper) (tm : F Value) (fx : Fx) (H : AH) (kn : KN) (kx : KX) : (cD E nt ops).f ih tm fx H kn kx = outK (ofOps (drawnE E (callOf E r) ops (fx.fr nt tm) H)) kn kx := by
  unfold cD drawnE
  rw [show (fx.fr nt tm).nt = nt from rfl]
  cases ltOK ops nt with
  | false => rfl
  | true =>
    simp only
    cases statOK E ops (masks ops) (List.range ops.length) (ranks (List.range ops.length) ops.length) with
    | true => exact cDO_spec hr nt _ _ _ _ _ _ _ _ _
    | false =>
      simp only
      cases statOK E ops (masks ops) (sinkGo ops (masks ops) (List.range ops.length) []) (ranks (sinkGo ops (masks ops) (List.range ops.length) []) ops.length) with
      | true => exact cDO_spec hr nt _ _ _ _ _ _ _ _ _
      | false => rfl
end
/-! slots' number stays -/
theorem put_nt (fr : Fr) (d : Option Tmp) (v : Value) : (fr.put d v).nt = fr.nt := by
  cases d with
  | none => rfl
  | some d => unfold Fr.put; simp only; split <;> rfl
theorem evOps_nt {E : FEnv} {call : CallT} {all : List Oper} : ∀ (l : List Oper) (fr : Fr) (H : AH) (e : Ex) (fr' : Fr) (H' : AH), evOps E call all l fr H = some (e, fr', H') → fr'.nt = fr.nt := by
  intro l
  induction l with
  | nil => intro fr H e fr' H' h; unfold evOps at h; injection h with h; injection h with _ h; injection h with h _; rw [← h]
  | cons o rest ih =>
    intro fr H e fr' H' h
    unfold evOps at h
    split at h
    · exact (ih _ _ _ _ _ h).trans (put_nt _ _ _)
    · split at h
      · exact (ih _ _ _ _ _ h).trans (put_nt _ _ _)
      · exact (ih _ _ _ _ _ h).trans (put_nt _ _ _)
      · split at h
        · exact (ih _ _ _ _ _ h).trans (put_nt _ _ _)
        · injection h with h; injection h with _ h; injection h with h _; rw [← h]
        · cases h
      · split at h
        · exact (ih _ _ _ _ _ h).trans (put_nt _ _ _)
        · cases h
      · split at h
        · exact (ih _ _ _ _ _ h).trans (put_nt _ _ _)
        · exact (ih _ _ _ _ _ h).trans (put_nt _ _ _)
        · cases h
      · injection h with h; injection h with _ h; injection h with h _; rw [← h]
      · cases h
theorem drawnP_nt {E : FEnv} {call : CallT} {ops : List Oper} {P ord R : List Nat} {fr : Fr} {H : AH} {e : Ex} {fr' : Fr} {H' : AH} (h : drawnP E call ops P ord R fr H = some (e, fr', H')) : fr'.nt = fr.nt := by
  unfold drawnP at h
  split at h
  case h_2 => cases h
  split at h
  case h_2 => cases h
  split at h
  case h_2 => cases h
  split at h
  · injection h with h; injection h with _ h; injection h with h _; rw [← h]
  · cases h
theorem drawnO_nt {E : FEnv} {call : CallT} {ops : List Oper} {P ord R : List Nat} {fr : Fr} {H : AH} {e : Ex} {fr' : Fr} {H' : AH} (h : drawnO E call ops P ord R fr H = some (e, fr', H')) : fr'.nt = fr.nt := by
  unfold drawnO at h
  split at h
  · split at h
    · injection h with h; injection h with _ h; injection h with h _; rw [← h]
    · cases h
  · exact drawnP_nt h
theorem drawnE_nt {E : FEnv} {call : CallT} {ops : List Oper} {fr : Fr} {H : AH} {e : Ex} {fr' : Fr} {H' : AH} (h : drawnE E call ops fr H = some (e, fr', H')) : fr'.nt = fr.nt := by
  unfold drawnE at h
  split at h
  · split at h
    · exact drawnO_nt h
    · split at h
      · exact drawnO_nt h
      · cases h
  · cases h
theorem runRange_nt {E : FEnv} {r : Task → Option TOut} {f : Operand} {ps : Array Tmp} {x y : Code} {fr : Fr} {H : AH} {e : Ex} {fr' : Fr} {H' : AH} (h : runRange E r f ps x y fr H = some (.out e fr' H')) : fr'.nt = fr.nt := by
  have ho : ∀ l fr1 H1, openLoop fr H ps x y = some (l, fr1, H1) → fr1.nt = fr.nt := by
    intro l fr1 H1 q
    unfold openLoop at q
    split at q
    · injection q with q; injection q with _ q; injection q with q _; rw [← q]
    · split at q
      · injection q with q; injection q with _ q; injection q with q _; rw [← q]
      · cases q
  have hc : ∀ l fr1 H1, closeLoop l fr1 H1 = some (.out e fr' H') → fr'.nt = fr1.nt := by
    intro l fr1 H1 q
    unfold closeLoop at q
    split at q
    case h_2 => cases q
    split at q
    · cases q
    · split at q <;> first | (injection q with q; injection q with _ q _; rw [← q]) | cases q
  unfold runRange at h
  split at h
  case h_2 => cases h
  split at h
  case h_2 => cases h
  rename_i l fr1 H1 hop
  split at h
  case h_2 => cases h
  split at h
  · exact (hc _ _ _ h).trans (ho _ _ _ hop)
  · injection h with h; injection h with _ h _; rw [← h]; exact ho _ _ _ hop
  · cases h
theorem runScope_nt {r : Task → Option TOut} (hk : keepNt r) {c : Code} {q : Option TOut} {fr : Fr} {e : Ex} {fr' : Fr} {H' : AH} (h : runScope r c q = some (.out e fr' H')) (hq : ∀ e fr' H', q = some (.out e fr' H') → fr'.nt = fr.nt) : fr'.nt = fr.nt := by
  unfold runScope at h
  split at h
  · rename_i l fr1 H1
    split at h
    · exact (hk.2 _ _ _ _ _ _ _ h).trans (hq _ _ _ rfl)
    · injection h with h; injection h with _ h _; rw [← h]; exact hq _ _ _ rfl
  · exact hq _ _ _ h
theorem evC_nt {E : FEnv} {r : Task → Option TOut} (hk : keepNt r) : ∀ (c : Code) (fr : Fr) (H : AH) (e : Ex) (fr' : Fr) (H' : AH), evC E (drawnE E) r c fr H = some (.out e fr' H') → fr'.nt = fr.nt := by
  have hof : ∀ (x : Option (Ex × Fr × AH)) (e : Ex) (fr' : Fr) (H' : AH), ofOps x = some (.out e fr' H') → x = some (e, fr', H') := by
    intro x e fr' H' h
    rcases x with _ | ⟨a, b, c⟩
    · cases h
    · unfold ofOps at h; injection h with h; injection h with h1 h2 h3; rw [h1, h2, h3]
  intro c
  induction c with
  | skip => intro fr H e fr' H' h; injection h with h; injection h with _ h _; rw [← h]
  | label l => intro fr H e fr' H' h; injection h with h; injection h with _ h _; rw [← h]
  | region id ops draw =>
    intro fr H e fr' H' h
    cases draw with
    | false => exact evOps_nt _ _ _ _ _ _ (hof _ _ _ _ h)
    | true => exact drawnE_nt (hof _ _ _ _ h)
  | seq a b iha ihb =>
    intro fr H e fr' H' h
    unfold evC at h
    split at h
    · rename_i fr1 H1 hq; exact (ihb _ _ _ _ _ h).trans (iha _ _ _ _ _ hq)
    · rename_i e1 fr1 H1 hne hq; injection h with h; injection h with _ h _; rw [← h]; exact iha _ _ _ _ _ hq
    · cases h
  | cond x a b iha ihb =>
    intro fr H e fr' H' h
    unfold evC at h
    split at h
    · exact iha _ _ _ _ _ h
    · exact ihb _ _ _ _ _ h
    · cases h
  | block id c ih =>
    intro fr H e fr' H' h
    unfold evC at h
    split at h
    · rename_i id' fr1 H1 hq
      split at h
      · injection h with h; injection h with _ h _; rw [← h]; exact ih _ _ _ _ _ hq
      · injection h with h; injection h with _ h _; rw [← h]; exact ih _ _ _ _ _ hq
    · rename_i e1 fr1 H1 hne hq; injection h with h; injection h with _ h _; rw [← h]; exact ih _ _ _ _ _ hq
    · cases h
  | loop c ih =>
    intro fr H e fr' H' h
    unfold evC at h
    split at h
    · rename_i fr1 H1 hq; exact (hk.1 _ _ _ _ _ _ h).trans (ih _ _ _ _ _ hq)
    · rename_i e1 fr1 H1 hne hq; injection h with h; injection h with _ h _; rw [← h]; exact ih _ _ _ _ _ hq
    · cases h
  | scope c ih => intro fr H e fr' H' h; exact runScope_nt hk h (fun e fr' H' q => ih _ _ _ _ _ q)
  | exit id => intro fr H e fr' H' h; injection h with h; injection h with _ h _; rw [← h]
  | ret => intro fr H e fr' H' h; injection h with h; injection h with _ h _; rw [← h]
  | rangeFunc f ps x y _ _ => intro fr H e fr' H' h; exact runRange_nt h
  | goto l => intro fr H e fr' H' h; injection h with h; injection h with _ h _; rw [← h]
  | refuse why => intro fr H e fr' H' h; cases h
end Go.Proofs.YtohgenhjdgdkgaaGreatDoor.Sh
