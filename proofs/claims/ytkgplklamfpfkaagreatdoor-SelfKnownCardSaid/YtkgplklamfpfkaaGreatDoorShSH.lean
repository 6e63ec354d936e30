import Derived.Test.YtkgplklamfpfkaaGreatDoorShSG
namespace Go.Proofs.YtkgplklamfpfkaaGreatDoor.Sh
open Go.RowKit
set_option linter.unusedVariables false
set_option linter.unusedSimpArgs false

section
variable {E : FEnv} {rec : Task → Option TOut} {drawn : CallT → List Oper → Fr → AH → Option (Ex × Fr × AH)}
theorem step_scope_ {P : Program} {b : Frame} {a : Act} {k : List Item} {cs : List Frame} {w : World} {c : Code} : step P (lone (b.at a (.code (.scope c) :: k)) cs w) = .next (lone (b.at a (.code c :: .inScope c :: k)) cs w) :=
  step_lone_go (by simp [stepG, stepG.exec, Frame.at])
theorem step_inScope_ {P : Program} {b : Frame} {a : Act} {k : List Item} {cs : List Frame} {w : World} {c : Code} : step P (lone (b.at a (.inScope c :: k)) cs w) = .next (lone (b.at a k) cs w) :=
  step_lone_go (by simp [stepG, stepG.exec, Frame.at])
/-- An item that exits pass over. -/
theorem Arr.pass {P : Program} {m : Machine} {b : Frame} {a : Act} {x : Item} {k : List Item} {cs : List Frame} {w : World} {γ : Nat → G} {n : Nat} {e : Ex} (hx : ∀ id, exitTo id (x :: k) = exitTo id k) (he : e ≠ .normal) (h : Arr P m b a (x :: k) cs w γ n e) : Arr P m b a k cs w γ n e := by
  cases e with
  | normal => exact absurd rfl he
  | exit id => exact fun k' hk => h k' (by rw [hx]; exact hk)
  | ret => exact h
  | panic v => exact h
theorem Runs.pass {P : Program} {m : Machine} {b : Frame} {x : Item} {k : List Item} {cs : List Frame} {γ : Nat → G} {base : Bs} {w0 : World} {n : Nat} {rc : Bool} {e : Ex} {fr' : Fr} {H' : AH} (hx : ∀ id, exitTo id (x :: k) = exitTo id k) (he : e ≠ .normal) (r : Runs P m b (x :: k) cs γ base w0 n rc e fr' H') : Runs P m b k cs γ base w0 n rc e fr' H' := by
  obtain ⟨γ', a', w', cs', h1, h2, h3, h4, h5, h6⟩ := r
  exact ⟨γ', a', w', cs', h1, h2, h3, h4, h5, h6.pass hx he⟩
/-- Behind a piece that ends normally. -/
theorem Runs.then {P : Program} {m : Machine} {b : Frame} {k k1 : List Item} {cs : List Frame} {γ : Nat → G} {base : Bs} {w0 : World} {n : Nat} {rc : Bool} {e : Ex} {fr1 fr' : Fr} {H1 H' : AH} (r : Runs P m b k1 cs γ base w0 n rc .normal fr1 H1)
    (h : ∀ (γ1 : Nat → G) (a1 : Act) (w1 : World) (cs1 : List Frame), HRel γ1 base w0 H1 w1 → FrRel γ1 H1.next fr1 a1 → Rc γ1 H1.next b.kind cs1 fr1.pk → Runs P (lone (b.at a1 k1) cs1 w1) b k cs1 γ1 base w0 H1.next fr1.rc e fr' H') : Runs P m b k cs γ base w0 n rc e fr' H' := by
  obtain ⟨γ1, a1, w1, cs1, h1, h2, h3, h4, h5, h6⟩ := r
  exact ((h γ1 a1 w1 cs1 h2 h3 h4).more h1 h5).after h6
theorem loop_ok {c : Code} {fr fr1 fr' : Fr} {H H1 H' : AH} {e : Ex} (hr : RecOK E rec)
    (hc : ∃ e1, rec (.code c fr H) = some (.out e1 fr1 H1) ∧ ((e1 = .normal ∧ rec (.again c fr1 H1) = some (.out e fr' H')) ∨ (e1 ≠ .normal ∧ e = e1 ∧ fr' = fr1 ∧ H' = H1)))
    {γ : Nat → G} {base : Bs} {w0 w : World} {b : Frame} {a : Act} {k : List Item} {cs : List Frame} (h1 : HRel γ base w0 H w) (h2 : FrRel γ H.next fr a) (h3 : Rc γ H.next b.kind cs fr.pk) :
    Runs E.P (lone (b.at a (.code c :: .inLoop c :: k)) cs w) b k cs γ base w0 H.next fr.rc e fr' H' := by
  obtain ⟨e1, hq, hh⟩ := hc
  have r1 := hr _ _ hq γ base w0 w b a (.inLoop c :: k) cs h1 h2 h3
  rcases hh with ⟨rfl, hag⟩ | ⟨hne, rfl, rfl, rfl⟩
  · exact r1.then fun γ1 a1 w1 cs1 g1 g2 g3 => hr _ _ hag γ1 base w0 w1 b a1 k cs1 g1 g2 g3
  · exact r1.pass (fun _ => rfl) hne
theorem enter_at {P : Program} {f : FuncId} {fn : Func} {c : Code} {args : Array Value} {kd : CallKind} (hf : P.funcs[f]? = some fn) (hb : fn.body = some c) : Frame.enter P f args kd = (bF f kd).at { tmps := args ++ Array.replicate (fn.ntmps - args.size) undef, defers := [] } [.code c] := by
  simp [Frame.enter, Frame.at, hf, hb, bF]
theorem leave_deferred {P : Program} {fr c : Frame} {cs : List Frame} {w : World} {fn : Func} {v : Value} (hm : fr.mode = .returning) (hd : fr.defers = []) (hk : fr.kind = .deferred) (hf : P.funcs[fr.fn]? = some fn) (hr : (results fn fr.tmps).run P w = .ok v w) :
    step P (lone fr (c :: cs) w) = .next (lone (match c.mode with
        | .panicking ({ recovered := true, .. } :: older) =>
          match older.dropWhile (!·.goexit) with
          | [] => { c with mode := .returning }
          | rest => { c with mode := .panicking rest }
        | _ => c) cs w) :=
  step_lone_go (by simp [stepG, unwind, doReturn, hm, hd, hk, hf, hr]; rfl)
theorem code_ok (hE : E.OK) (hr : RecOK E rec) (hd : DrawnOK E drawn) (c : Code) (fr : Fr) (H : AH) (o : TOut) (h : body E drawn rec (.code c fr H) = some o) : TaskOK E (.code c fr H) o := by
  have fin : ∀ (e : Ex) (fr1 : Fr) (H1 : AH), o = .out e fr1 H1 → (∀ (γ : Nat → G) (base : Bs) (w0 w : World) (b : Frame) (a : Act) (k : List Item) (cs : List Frame), HRel γ base w0 H w → FrRel γ H.next fr a → Rc γ H.next b.kind cs fr.pk →
      Runs E.P (lone (b.at a (.code c :: k)) cs w) b k cs γ base w0 H.next fr.rc e fr1 H1) → TaskOK E (.code c fr H) o := fun e fr1 H1 q hh => by subst q; exact hh
  cases c with
  | skip =>
    injection h with h
    exact fin _ _ _ h.symm fun γ base w0 w b a k cs h1 h2 h3 => ⟨γ, a, w, cs, Ext.refl _ _, h1, h2, h3, Chg.refl _ _, .one step_skip⟩
  | label l =>
    injection h with h
    exact fin _ _ _ h.symm fun γ base w0 w b a k cs h1 h2 h3 => ⟨γ, a, w, cs, Ext.refl _ _, h1, h2, h3, Chg.refl _ _, .one step_label⟩
  | exit id =>
    injection h with h
    exact fin _ _ _ h.symm fun γ base w0 w b a k cs h1 h2 h3 => ⟨γ, a, w, cs, Ext.refl _ _, h1, h2, h3, Chg.refl _ _, fun k' hk => .one (step_exit hk)⟩
  | ret =>
    injection h with h
    exact fin _ _ _ h.symm fun γ base w0 w b a k cs h1 h2 h3 => ⟨γ, a, w, cs, Ext.refl _ _, h1, h2, h3, Chg.refl _ _, _, .one step_ret⟩
  | region id ops draw =>
    cases draw with
    | false =>
      have h' : ofOps (evOps E (callOf rec) ops.toList ops.toList fr H) = some o := h
      unfold ofOps at h'
      split at h'
      case h_2 => cases h'
      rename_i e fr1 H1 hq
      injection h' with h'
      refine fin _ _ _ h'.symm fun γ base w0 w b a k cs h1 h2 h3 => ?_
      have := evOps_ok hE (callOf_ok hr) ops ops.toList (List.range' 0 ops.size) fr H e fr1 H1 hq (by have := Idx.range ops ops.size 0 (by omega); simpa using this) γ base w0 w b a k cs h1 h2 h3
      rw [← List.range_eq_range'] at this
      exact this.after (.one step_region)
    | true =>
      have h' : ofOps (drawn (callOf rec) ops.toList fr H) = some o := h
      unfold ofOps at h'
      split at h'
      case h_2 => cases h'
      rename_i e fr1 H1 hq
      injection h' with h'
      refine fin _ _ _ h'.symm fun γ base w0 w b a k cs h1 h2 h3 => ?_
      exact (hd _ (callOf_ok hr) ops fr H e fr1 H1 hq γ base w0 _ b a k cs _ h1.drew h2 h3).after (.one step_region_draw)
  | seq x y =>
    have h' : (match rec (.code x fr H) with
      | some (.out .normal fr H) => rec (.code y fr H)
      | some (.out e fr H) => some (.out e fr H)
      | _ => none) = some o := h
    split at h'
    · rename_i fr1 H1 hq
      cases o with
      | fin r H2 rc => exact (hr _ _ h').elim
      | out e fr2 H2 =>
        exact fin _ _ _ rfl fun γ base w0 w b a k cs h1 h2 h3 => ((hr _ _ hq γ base w0 w b a (.code y :: k) cs h1 h2 h3).then fun γ1 a1 w1 cs1 g1 g2 g3 => hr _ _ h' γ1 base w0 w1 b a1 k cs1 g1 g2 g3).after (.one step_seq)
    · rename_i e fr1 H1 hne hq
      injection h' with h'
      exact fin _ _ _ h'.symm fun γ base w0 w b a k cs h1 h2 h3 => ((hr _ _ hq γ base w0 w b a (.code y :: k) cs h1 h2 h3).pass (fun _ => rfl) (fun q => hne q)).after (.one step_seq)
    · cases h'
  | cond x c1 c2 =>
    have h' : (match evF fr.tm H.g0 x with
      | some (.bool true) => rec (.code c1 fr H)
      | some (.bool false) => rec (.code c2 fr H)
      | _ => none) = some o := h
    split at h'
    · rename_i hx
      cases o with
      | fin r H2 rc => exact (hr _ _ h').elim
      | out e fr2 H2 =>
        refine fin _ _ _ rfl fun γ base w0 w b a k cs h1 h2 h3 => ?_
        have hev := (evF_ok h1 h2.tm x _ hx).bool_inv
        exact (hr _ _ h' γ base w0 w b a k cs h1 h2 h3).after (.one (step_cond hev))
    · rename_i hx
      cases o with
      | fin r H2 rc => exact (hr _ _ h').elim
      | out e fr2 H2 =>
        refine fin _ _ _ rfl fun γ base w0 w b a k cs h1 h2 h3 => ?_
        have hev := (evF_ok h1 h2.tm x _ hx).bool_inv
        exact (hr _ _ h' γ base w0 w b a k cs h1 h2 h3).after (.one (step_cond hev))
    · cases h'
  | block id c =>
    have h' : (match rec (.code c fr H) with
      | some (.out (.exit id') fr H) => match Nat.beq id' id with
        | true => some (.out .normal fr H)
        | false => some (.out (.exit id') fr H)
      | some (.out e fr H) => some (.out e fr H)
      | _ => none) = some o := h
    split at h'
    · rename_i id' fr1 H1 hq
      split at h'
      · rename_i hb
        have hb' := Nat.eq_of_beq_eq_true hb
        subst hb'
        injection h' with h'
        refine fin _ _ _ h'.symm fun γ base w0 w b a k cs h1 h2 h3 => ?_
        obtain ⟨γ1, a1, w1, cs1, g1, g2, g3, g4, g5, g6⟩ := hr _ _ hq γ base w0 w b a (.inBlock id' :: k) cs h1 h2 h3
        exact ⟨γ1, a1, w1, cs1, g1, g2, g3, g4, g5, Steps.trans (.one step_block) (g6 k (by simp [exitTo]))⟩
      · rename_i hb
        have hb' := Nat.ne_of_beq_eq_false hb
        injection h' with h'
        refine fin _ _ _ h'.symm fun γ base w0 w b a k cs h1 h2 h3 => ?_
        obtain ⟨γ1, a1, w1, cs1, g1, g2, g3, g4, g5, g6⟩ := hr _ _ hq γ base w0 w b a (.inBlock id :: k) cs h1 h2 h3
        refine ⟨γ1, a1, w1, cs1, g1, g2, g3, g4, g5, fun k' hk => Steps.trans (.one step_block) (g6 k' ?_)⟩
        have : (id == id') = false := by simp; exact fun q => hb' q.symm
        simp [exitTo, this, hk]
    · rename_i e fr1 H1 hne hq
      injection h' with h'
      refine fin _ _ _ h'.symm fun γ base w0 w b a k cs h1 h2 h3 => ?_
      obtain ⟨γ1, a1, w1, cs1, g1, g2, g3, g4, g5, g6⟩ := hr _ _ hq γ base w0 w b a (.inBlock id :: k) cs h1 h2 h3
      refine ⟨γ1, a1, w1, cs1, g1, g2, g3, g4, g5, ?_⟩
      cases e with
      | normal => exact Steps.trans (.one step_block) (Steps.trans g6 (.one step_inBlock))
      | exit id' => exact (hne id' rfl).elim
      | ret => obtain ⟨t, s⟩ := g6; exact ⟨t, Steps.trans (.one step_block) s⟩
      | panic v => obtain ⟨t, v', hv, s⟩ := g6; exact ⟨t, v', hv, Steps.trans (.one step_block) s⟩
    · cases h'
  | loop c =>
    have h' : (match rec (.code c fr H) with
      | some (.out .normal fr H) => rec (.again c fr H)
      | some (.out e fr H) => some (.out e fr H)
      | _ => none) = some o := h
    split at h'
    · rename_i fr1 H1 hq
      cases o with
      | fin r H2 rc => exact (hr _ _ h').elim
      | out e fr2 H2 => exact fin _ _ _ rfl fun γ base w0 w b a k cs h1 h2 h3 => (loop_ok hr ⟨_, hq, .inl ⟨rfl, h'⟩⟩ h1 h2 h3).after (.one step_loop)
    · rename_i e fr1 H1 hne hq
      injection h' with h'
      exact fin _ _ _ h'.symm fun γ base w0 w b a k cs h1 h2 h3 => (loop_ok hr ⟨_, hq, .inr ⟨fun q => hne q, rfl, rfl, rfl⟩⟩ h1 h2 h3).after (.one step_loop)
    · cases h'
  | scope c =>
    have h' : rec (.code c fr H) = some o := h
    cases o with
    | fin r H2 rc => exact (hr _ _ h').elim
    | out e fr2 H2 =>
      refine fin _ _ _ rfl fun γ base w0 w b a k cs h1 h2 h3 => ?_
      have r1 := hr _ _ h' γ base w0 w b a (.inScope c :: k) cs h1 h2 h3
      by_cases he : e = .normal
      · subst he
        obtain ⟨γ1, a1, w1, cs1, g1, g2, g3, g4, g5, g6⟩ := r1
        exact ⟨γ1, a1, w1, cs1, g1, g2, g3, g4, g5, Steps.trans (.one step_scope_) (Steps.trans g6 (.one step_inScope_))⟩
      · exact (r1.pass (fun _ => rfl) he).after (.one step_scope_)
  | rangeFunc f ps x y => cases h
  | goto l => cases h
  | refuse why => cases h
theorem again_ok (hr : RecOK E rec) (c : Code) (fr : Fr) (H : AH) (o : TOut) (h : body E drawn rec (.again c fr H) = some o) : TaskOK E (.again c fr H) o := by
  have h' : (match rec (.code c fr H) with
      | some (.out .normal fr H) => rec (.again c fr H)
      | some (.out e fr H) => some (.out e fr H)
      | _ => none) = some o := h
  split at h'
  · rename_i fr1 H1 hq
    cases o with
    | fin r H2 rc => exact (hr _ _ h').elim
    | out e fr2 H2 => exact fun γ base w0 w b a k cs h1 h2 h3 => (loop_ok hr ⟨_, hq, .inl ⟨rfl, h'⟩⟩ h1 h2 h3).after (.one step_inLoop)
  · rename_i e fr1 H1 hne hq
    injection h' with h'
    subst h'
    exact fun γ base w0 w b a k cs h1 h2 h3 => (loop_ok hr ⟨_, hq, .inr ⟨fun q => hne q, rfl, rfl, rfl⟩⟩ h1 h2 h3).after (.one step_inLoop)
  · cases h'
theorem call_ok (hE : E.OK) (hr : RecOK E rec) (f : FuncId) (args : List Value) (H : AH) (pk : Option Value) (o : TOut) (h : body E drawn rec (.call f args H pk) = some o) : TaskOK E (.call f args H pk) o := by
  have h' : (match E.fn f with
    | some fn => match fn.body with
      | some c => match Nat.ble args.length fn.ntmps with
        | true => match rec (.code c ⟨tmOf args 0 .lf, fn.ntmps, [], pk, false⟩ H) with
          | some (.out .normal fr H) => rec (.unw none fn fr H)
          | some (.out .ret fr H) => rec (.unw none fn fr H)
          | some (.out (.panic v) fr H) => rec (.unw (some v) fn fr H)
          | _ => none
        | false => none
      | none => none
    | none => none) = some o := h
  split at h'
  case h_2 => cases h'
  rename_i fn hfn
  have hf := hE.fn _ _ hfn
  split at h'
  case h_2 => cases h'
  rename_i c hb
  split at h'
  case h_2 => cases h'
  rename_i hle
  have hle' := Nat.le_of_ble_eq_true hle
  have hall : ∀ (e : Ex) (fr1 : Fr) (H1 : AH) (m : Option Value), rec (.code c ⟨tmOf args 0 .lf, fn.ntmps, [], pk, false⟩ H) = some (.out e fr1 H1) → (e = .normal ∧ m = none ∨ e = .ret ∧ m = none ∨ ∃ v, e = .panic v ∧ m = some v) → rec (.unw m fn fr1 H1) = some o → TaskOK E (.call f args H pk) o := by
    intro e fr1 H1 m hq hem hu
    cases o with
    | out e fr2 H2 => exact (hr _ _ hu).elim
    | fin r H2 rc =>
      intro γ base w0 w args' kd cs h1 h2 h3
      have hF : FrRel γ H.next ⟨tmOf args 0 .lf, fn.ntmps, [], pk, false⟩ { tmps := (⟨args'⟩ : Array Value) ++ Array.replicate (fn.ntmps - (⟨args'⟩ : Array Value).size) undef, defers := [] } := ⟨enter_rel h2 fn.ntmps hle', .nil⟩
      obtain ⟨γ1, a1, w1, cs1, g1, g2, g3, g4, g5, g6⟩ := hr _ _ hq γ base w0 w (bF f kd) _ [] cs h1 hF h3
      rw [← enter_at (kd := kd) hf hb] at g6
      obtain ⟨todo, mode, hs, hmode⟩ : ∃ todo mode, Steps E.P (lone (Frame.enter E.P f ⟨args'⟩ kd) cs w) (lone { (bF f kd).at a1 todo with mode := mode } cs1 w1) ∧ ModeOK γ1 H1.next m mode := by
        rcases hem with ⟨rfl, rfl⟩ | ⟨rfl, rfl⟩ | ⟨v, rfl, rfl⟩
        · exact ⟨[], .returning, Steps.trans g6 (.one step_end), rfl⟩
        · obtain ⟨t, s⟩ := g6; exact ⟨t, .returning, s, rfl⟩
        · obtain ⟨t, v', hv, s⟩ := g6; exact ⟨t, _, s, v', hv, rfl⟩
      obtain ⟨γ2, w2, fr2, k1, k2, k3, k4, k5⟩ := hr _ _ hu γ1 base w0 w1 (bF f kd) a1 todo cs1 mode g2 (FrX.weak g3) hf rfl hmode
      exact ⟨γ2, w2, fr2, cs1, g1.trans k1, k2, by rw [k3]; exact g5, hs.trans k4, k5⟩
  split at h'
  · rename_i fr1 H1 hq; exact hall _ _ _ _ hq (.inl ⟨rfl, rfl⟩) h'
  · rename_i fr1 H1 hq; exact hall _ _ _ _ hq (.inr (.inl ⟨rfl, rfl⟩)) h'
  · rename_i v fr1 H1 hq; exact hall _ _ _ _ hq (.inr (.inr ⟨v, rfl, rfl⟩)) h'
  · cases h'
theorem unw_ok (hE : E.OK) (hr : RecOK E rec) (m : Option Value) (fn : Func) (fr : Fr) (H : AH) (o : TOut) (h : body E drawn rec (.unw m fn fr H) = some o) : TaskOK E (.unw m fn fr H) o := by
  cases hdf : fr.df with
  | nil =>
    have h' := h
    unfold body at h'
    simp only [hdf] at h'
    split at h'
    · rename_i v
      injection h' with h'
      subst h'
      intro γ base w0 w b a todo cs mode h1 h2 h3 h4 h5
      obtain ⟨v', hv, rfl⟩ := h5
      have hdd : a.defers = [] := by have := h2.df; rw [hdf] at this; cases hx : a.defers with
        | nil => rfl
        | cons x y => rw [hx] at this; cases this
      exact ⟨γ, w, _, Ext.refl _ _, h1, rfl, Steps.refl _ _, v', hv, rfl, hdd, rfl, rfl, fn, h3⟩
    · split at h'
      case h_2 => cases h'
      rename_i vs hvs
      injection h' with h'
      subst h'
      intro γ base w0 w b a todo cs mode h1 h2 h3 h4 h5
      have h5' : mode = .returning := h5
      subst h5'
      have hdd : a.defers = [] := by have := h2.df; rw [hdf] at this; cases hx : a.defers with
        | nil => rfl
        | cons x y => rw [hx] at this; cases this
      obtain ⟨v', k1, k2⟩ := results_ok hE h1 h2.tm hvs
      exact ⟨γ, w, _, Ext.refl _ _, h1, rfl, Steps.refl _ _, v', k2, rfl, hdd, rfl, rfl, rfl, fn, h3, k1⟩
  | cons d ds =>
    have h' := h
    unfold body at h'
    simp only [hdf] at h'
    split at h'
    case h_1 => cases h'
    rename_i an han
    -- the deferred call
    have go : ∀ (r : CR) (H1 : AH) (rc : Bool) (m2 : Option Value), rec (.call d.f (d.a ++ d.c) H m) = some (.fin r H1 rc) → rec (.unw m2 fn { fr with df := ds } H1) = some o →
        ((∃ v, r = .ret v ∧ ((rc = true ∧ m2 = none) ∨ (rc = false ∧ m2 = m))) ∨ (∃ v, r = .pan v ∧ m = none ∧ m2 = some v)) → TaskOK E (.unw m fn fr H) o := by
      intro r H1 rc m2 hq hu hcase
      cases o with
      | out e fr2 H2 => exact (hr _ _ hu).elim
      | fin r2 H2 rc2 =>
        intro γ base w0 w b a todo cs mode h1 h2 h3 h4 h5
        have hdfr := h2.df
        rw [hdf] at hdfr
        obtain ⟨d', ds', had, ⟨a', c', rfl, la, lc⟩, hds⟩ : ∃ d' ds', a.defers = d' :: ds' ∧ DRel γ H.next d d' ∧ DsRel γ H.next ds ds' := by
          cases hx : a.defers with
          | nil => rw [hx] at hdfr; cases hdfr
          | cons x y => rw [hx] at hdfr; cases hdfr with | cons _ _ _ _ q1 q2 => exact ⟨x, y, rfl, q1, q2⟩
        have hle := la.append lc
        have hAN := aEnter_ok (base := base) (w0 := w0) (w := w) (γ := γ) (n := an.1) (H' := an.2) hE hle han
        have hrun : (invoke (.fn (.func d.f) ⟨c'⟩) ⟨a'⟩).run E.P w = .ok (.enter d.f ⟨a' ++ c'⟩) w := by
          have he : (invoke (.fn (.func d.f) ⟨c'⟩) ⟨a'⟩ : Sem Next) = callFunc d.f ⟨a' ++ c'⟩ := by
            show callFunc d.f ((⟨a'⟩ : Array Value) ++ (⟨c'⟩ : Array Value)) = _
            congr 1
            apply Array.ext'
            simp
          rw [he]
          unfold aEnter at han
          split at han
          case h_2 => cases han
          rename_i fn2 hfn2
          split at han
          case h_2 => cases han
          rename_i cc hcc
          have hf2 := hE.fn _ _ hfn2
          have hn : ¬ (fn2.name = "runtime.NumGoroutine") := by have := hE.name _ _ hf2; simpa using this
          simp [callFunc, hf2, hn, hcc]
        have hmr : mode ≠ .run := by
          cases m with
          | none => have h5' : mode = .returning := h5; rw [h5']; exact fun q => by cases q
          | some v => obtain ⟨v', _, q⟩ := h5; rw [q]; exact fun q => by cases q
        have hst := unw_step (P := E.P) (fr := { b.at a todo with mode := mode }) (cs := cs) (w := w) (d := { target := .fn (.func d.f) ⟨c'⟩, args := ⟨a'⟩ }) (ds := ds') (f := d.f) (args := ⟨a' ++ c'⟩) had hmr (fun r q => by cases q) (by simp) hrun
        have hRc : Rc γ H.next .deferred ({ b.at { tmps := a.tmps, defers := ds' } todo with mode := mode } :: cs) m := by
          cases m with
          | none =>
            have h5' : mode = .returning := h5
            subst h5'
            intro fr0 hk0
            unfold tryRecover
            rw [hk0]
          | some v =>
            obtain ⟨v', hv, rfl⟩ := h5
            exact ⟨rfl, _, cs, v', [], rfl, rfl, hv⟩
        obtain ⟨γ1, w1, fr1, cs1, g1, g2, g3, g4, g5⟩ := hr _ _ hq γ base w0 w (a' ++ c') .deferred _ h1 hle hRc
        have hF2 : FrRelW γ1 H1.next { fr with df := ds } { tmps := a.tmps, defers := ds' } := ⟨fun i hi => (h2.tm i hi).ext g1, hds.ext g1⟩
        have hfin : ∀ mode2, Steps E.P (lone fr1 cs1 w1) (lone { b.at { tmps := a.tmps, defers := ds' } todo with mode := mode2 } cs w1) → ModeOK γ1 H1.next m2 mode2 → ∃ γ' w' fr', Ext γ H.next γ' H2.next ∧ HRel γ' base w0 H2 w' ∧ rc2 = fr.rc ∧ Steps E.P (lone { b.at a todo with mode := mode } cs w) (lone fr' cs w') ∧ Left E.P b.fn b.kind fr' w' γ' H2.next r2 := by
          intro mode2 hs2 hm2
          obtain ⟨γ2, w2, fr2, k1, k2, k3, k4, k5⟩ := hr _ _ hu γ1 base w0 w1 b { tmps := a.tmps, defers := ds' } todo cs mode2 g2 hF2 h3 h4 hm2
          exact ⟨γ2, w2, fr2, g1.trans k1, k2, k3, (Steps.one hst).trans (g4.trans (hs2.trans k4)), k5⟩
        rcases hcase with ⟨v, rfl, hrm⟩ | ⟨v, rfl, rfl, rfl⟩
        · obtain ⟨v', q1, q2, q3, q4, q5, q6, fn2, q7, q8⟩ := g5
          rcases hrm with ⟨rfl, rfl⟩ | ⟨rfl, rfl⟩
          · rcases g3 with ⟨q, _⟩ | ⟨_, _, c, r, v2, older, e1, e2, e3⟩
            · cases q
            · injection e1 with e1 e4
              subst e1 e4 e3
              have hl := leave_deferred (P := E.P) (c := { { b.at { tmps := a.tmps, defers := ds' } todo with mode := mode } with mode := .panicking ({ v := v2, recovered := true } :: older) }) (cs := cs) (w := w1) q2 q3 q4 (by rw [q5]; exact q7) q8
              have hold : older = [] := by
                have e2' : mode = .panicking ({ v := v2, recovered := false } :: older) := e2
                cases m with
                | none => have h5' : mode = .returning := h5; rw [h5'] at e2'; cases e2'
                | some u => obtain ⟨u', _, q⟩ := h5; rw [q] at e2'; injection e2' with e2'; injection e2' with _ e2'; exact e2'.symm
              subst hold
              exact hfin .returning (.one hl) rfl
          · rcases g3 with ⟨_, e1⟩ | ⟨_, q, _⟩
            · subst e1
              have hl := leave_deferred (P := E.P) (c := { b.at { tmps := a.tmps, defers := ds' } todo with mode := mode }) (cs := cs) (w := w1) q2 q3 q4 (by rw [q5]; exact q7) q8
              refine hfin mode (.one ?_) ?_
              · rw [hl]
                cases m2 with
                | none => have h5' : mode = .returning := h5; subst h5'; rfl
                | some u => obtain ⟨u', _, rfl⟩ := h5; rfl
              · cases m2 with
                | none => exact h5
                | some u => obtain ⟨u', hu', q⟩ := h5; exact ⟨u', hu'.ext g1, q⟩
            · cases q
        · obtain ⟨v', q1, q2, q3, q4, q5, fn2, q6⟩ := g5
          have h5' : mode = .returning := h5
          subst h5'
          have hcs : cs1 = { b.at { tmps := a.tmps, defers := ds' } todo with mode := .returning } :: cs := by
            rcases g3 with ⟨_, e1⟩ | ⟨_, _, c, r, v2, older, e1, e2, _⟩
            · exact e1
            · injection e1 with e1 e4; subst e1; cases e2
          subst hcs
          have hl := step_leave_panicked (P := E.P) (fr := fr1) (c := { b.at { tmps := a.tmps, defers := ds' } todo with mode := .returning }) (cs := cs) (w := w1) (chain := [{ v := v', recovered := false }]) ⟨q2, q3, fn2, by rw [q5]; exact q6⟩
          exact hfin (.panicking [{ v := v', recovered := false }]) (.one hl) ⟨v', q1, rfl⟩
    split at h'
    · rename_i v H1 rc hq
      split at h'
      · exact go _ _ _ _ hq h' (.inl ⟨v, rfl, .inl ⟨rfl, rfl⟩⟩)
      · exact go _ _ _ _ hq h' (.inl ⟨v, rfl, .inr ⟨rfl, rfl⟩⟩)
    · rename_i v H1 rc hq
      split at h'
      · exact go _ _ _ _ hq h' (.inr ⟨v, rfl, rfl, rfl⟩)
      · cases h'
    · cases h'
theorem body_ok (hE : E.OK) (hd : DrawnOK E drawn) (hr : RecOK E rec) : RecOK E (body E drawn rec) := by
  intro t o h
  cases t with
  | code c fr H => exact code_ok hE hr hd c fr H o h
  | again c fr H => exact again_ok hr c fr H o h
  | call f args H pk => exact call_ok hE hr f args H pk o h
  | unw m fn fr H => exact unw_ok hE hr m fn fr H o h
theorem ev_ok (hE : E.OK) (hd : DrawnOK E drawn) : ∀ n, RecOK E (ev E drawn n) := by
  intro n
  induction n with
  | zero => intro t o h; cases h
  | succ n ih => exact body_ok hE hd ih
end
end Go.Proofs.YtkgplklamfpfkaaGreatDoor.Sh
