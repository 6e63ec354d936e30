import Derived.Test.YtkgplklamfpfkaaGreatDoorShSE
namespace Go.Proofs.YtkgplklamfpfkaaGreatDoor.Sh
open Go.RowKit
set_option linter.unusedVariables false
set_option linter.unusedSimpArgs false

/-! ### soundness: operations one by one -/
noncomputable def Left (P : Program) (f : FuncId) (kd : CallKind) (fr : Frame) (w : World) (γ : Nat → G) (n : Nat) : CR → Prop
  | .ret v => ∃ v', VRel γ n v v' ∧ fr.mode = .returning ∧ fr.defers = [] ∧ fr.kind = kd ∧ fr.fn = f ∧ fr.roundOf = none ∧ ∃ fn, P.funcs[f]? = some fn ∧ (results fn fr.tmps).run P w = .ok v' w
  | .pan v => ∃ v', VRel γ n v v' ∧ fr.mode = .panicking [{ v := v', recovered := false }] ∧ fr.defers = [] ∧ fr.kind = kd ∧ fr.fn = f ∧ ∃ fn, P.funcs[f]? = some fn
noncomputable def CallOK (E : FEnv) (call : CallT) : Prop := ∀ (f : FuncId) (args : List Value) (H : AH) (pk : Option Value) (r : CR) (H' : AH) (rc : Bool), call f args H pk = some (r, H', rc) →
  ∀ (γ : Nat → G) (base : Bs) (w0 w : World) (args' : List Value) (kd : CallKind) (cs : List Frame), HRel γ base w0 H w → LRel γ H.next args args' → Rc γ H.next kd cs pk →
    ∃ γ' w' fr' cs', Ext γ H.next γ' H'.next ∧ HRel γ' base w0 H' w' ∧ Chg cs cs' false rc ∧ Steps E.P (lone (Frame.enter E.P f ⟨args'⟩ kd) cs w) (lone fr' cs' w') ∧ Left E.P f kd fr' w' γ' H'.next r
noncomputable def Arr (P : Program) (m : Machine) (b : Frame) (a : Act) (k : List Item) (cs : List Frame) (w : World) (γ : Nat → G) (n : Nat) : Ex → Prop
  | .normal => Steps P m (lone (b.at a k) cs w)
  | .exit id => ∀ k', exitTo id k = some k' → Steps P m (lone (b.at a k') cs w)
  | .ret => ∃ todo, Steps P m (lone { b.at a todo with mode := .returning } cs w)
  | .panic v => ∃ todo v', VRel γ n v v' ∧ Steps P m (lone { b.at a todo with mode := .panicking [{ v := v', recovered := false }] } cs w)
theorem Arr.of_steps {P : Program} {m m1 : Machine} {b : Frame} {a : Act} {k : List Item} {cs : List Frame} {w : World} {γ : Nat → G} {n : Nat} {e : Ex} (h : Steps P m m1) (k' : Arr P m1 b a k cs w γ n e) : Arr P m b a k cs w γ n e := by
  cases e with
  | normal => exact h.trans k'
  | exit id => exact fun q hq => h.trans (k' q hq)
  | ret => obtain ⟨t, s⟩ := k'; exact ⟨t, h.trans s⟩
  | panic v => obtain ⟨t, v', hv, s⟩ := k'; exact ⟨t, v', hv, h.trans s⟩
/-- What is shown of a piece of code that runs in a frame. -/
noncomputable def Runs (P : Program) (m : Machine) (b : Frame) (k : List Item) (cs : List Frame) (γ : Nat → G) (base : Bs) (w0 : World) (n : Nat) (rc : Bool) (e : Ex) (fr' : Fr) (H' : AH) : Prop :=
  ∃ γ' a' w' cs', Ext γ n γ' H'.next ∧ HRel γ' base w0 H' w' ∧ FrX e γ' H'.next fr' a' ∧ Rc γ' H'.next b.kind cs' fr'.pk ∧ Chg cs cs' rc fr'.rc ∧ Arr P m b a' k cs' w' γ' H'.next e
theorem Runs.after {P : Program} {m m1 : Machine} {b : Frame} {k : List Item} {cs : List Frame} {γ : Nat → G} {base : Bs} {w0 : World} {n : Nat} {rc : Bool} {e : Ex} {fr' : Fr} {H' : AH} (h : Steps P m m1) (r : Runs P m1 b k cs γ base w0 n rc e fr' H') : Runs P m b k cs γ base w0 n rc e fr' H' := by
  obtain ⟨γ', a', w', cs', h1, h2, h3, h4, h5, h6⟩ := r
  exact ⟨γ', a', w', cs', h1, h2, h3, h4, h5, .of_steps h h6⟩
theorem Runs.more {P : Program} {m : Machine} {b : Frame} {k : List Item} {cs cs1 : List Frame} {γ γ1 : Nat → G} {base : Bs} {w0 : World} {n n1 : Nat} {rc rc1 : Bool} {e : Ex} {fr' : Fr} {H' : AH} (he : Ext γ n γ1 n1) (hc : Chg cs cs1 rc rc1) (r : Runs P m b k cs1 γ1 base w0 n1 rc1 e fr' H') : Runs P m b k cs γ base w0 n rc e fr' H' := by
  obtain ⟨γ', a', w', cs', h1, h2, h3, h4, h5, h6⟩ := r
  exact ⟨γ', a', w', cs', he.trans h1, h2, h3, h4, hc.trans h5, h6⟩
inductive Idx (ops : Array Oper) : List Nat → List Oper → Prop where
  | nil : Idx ops [] []
  | cons (i : Nat) (o : Oper) (l : List Nat) (r : List Oper) : ops[i]? = some o → Idx ops l r → Idx ops (i :: l) (o :: r)
theorem Idx.range (ops : Array Oper) : ∀ (n i : Nat), i + n = ops.size → Idx ops (List.range' i n) (ops.toList.drop i) := by
  intro n
  induction n with
  | zero => intro i h; rw [List.drop_of_length_le (by simp; omega)]; exact .nil
  | succ n ih =>
    intro i h
    have hi : i < ops.toList.length := by simp; omega
    rw [List.range'_succ, List.drop_eq_getElem_cons hi]
    exact .cons i _ _ _ (by rw [← Array.getElem?_toList]; exact List.getElem?_eq_getElem hi) (ih (i + 1) (by omega))
theorem tryRecover_yes {fr : Frame} {c : Frame} {r : List Frame} {v : Value} {older : List PanicEntry} (hk : fr.kind = .deferred) (hm : c.mode = .panicking ({ v := v, recovered := false } :: older)) : tryRecover fr (c :: r) = some (v, { c with mode := .panicking ({ v := v, recovered := true } :: older) } :: r) := by
  unfold tryRecover
  rw [hk]
  simp only [hm]
section
variable {E : FEnv} {call : CallT}
theorem Rc.normal (γ : Nat → G) (n : Nat) (cs : List Frame) : Rc γ n .normal cs none := by
  intro fr h
  unfold tryRecover
  rw [h]
set_option maxHeartbeats 1000000 in
theorem evOps_ok (hE : E.OK) (hc : CallOK E call) (ops : Array Oper) : ∀ (rest : List Oper) (l : List Nat) (fr : Fr) (H : AH) (e : Ex) (fr' : Fr) (H' : AH), evOps E call ops.toList rest fr H = some (e, fr', H') → Idx ops l rest →
    ∀ (γ : Nat → G) (base : Bs) (w0 w : World) (b : Frame) (a : Act) (k : List Item) (cs : List Frame), HRel γ base w0 H w → FrRel γ H.next fr a → Rc γ H.next b.kind cs fr.pk →
      Runs E.P (lone (b.at a (.inRegion ops l :: k)) cs w) b k cs γ base w0 H.next fr.rc e fr' H' := by
  intro rest
  induction rest with
  | nil =>
    intro l fr H e fr' H' he hi γ base w0 w b a k cs hR hF hP
    cases hi
    injection he with he; injection he with e1 e2; injection e2 with e2 e3; subst e1 e2 e3
    exact ⟨γ, a, w, cs, Ext.refl _ _, hR, hF, hP, Chg.refl _ _, .one step_region_end⟩
  | cons o rest ih =>
    intro l fr H e fr' H' he hi γ base w0 w b a k cs hR hF hP
    cases hi with
    | cons i _ l _ ho hi =>
    have hwb := wantedB_ok (ops := ops) hF.tm o
    unfold evOps at he
    split at he
    · -- it is not wanted
      rename_i hw
      rw [hw] at hwb
      have hs := step_op_skip (P := E.P) (b := b) (a := a) (k := k) (cs := cs) (w := w) (ops := ops) (i := i) (rest := l) (by simp [ho, hwb])
      rw [ho] at hs
      exact (ih l _ H e fr' H' he hi γ base w0 w b _ k cs hR (hF.put o.dst VRel.undef) (by unfold Fr.put; cases o.dst <;> simp only <;> (try split) <;> exact hP)).after (.one hs) |> fun r => by
        have : (fr.put o.dst undef).rc = fr.rc := by unfold Fr.put; cases o.dst <;> simp only <;> (try split) <;> rfl
        rw [this] at r; exact r
    · rename_i hw
      rw [hw] at hwb
      have hrcp : ∀ (f : Fr) (v : Value), (f.put o.dst v).rc = f.rc ∧ (f.put o.dst v).pk = f.pk := by
        intro f v; unfold Fr.put; cases o.dst <;> simp only <;> (try split) <;> first | exact ⟨rfl, rfl⟩ | exact ⟨trivial, trivial⟩
      have hev := evF_ok hR hF.tm
      split at he
      · rename_i v H1 hop
        obtain ⟨γ1, v', w1, h1, h2, h3, h4⟩ := aop_ok (w := w) hE hR hev hop
        have hs := op_value (P := E.P) (b := b) (k := k) (cs := cs) (rest := l) ho hwb h2
        have := ih l _ H1 e fr' H' he hi γ1 base w0 w1 b (a.put o.dst v') k cs h4 ((hF.ext h1).put o.dst h3) (by rw [(hrcp _ _).2]; exact hP.ext h1)
        rw [(hrcp _ _).1] at this
        exact (this.more h1 (Chg.refl _ _)).after (.one hs)
      · rename_i H1 hop
        obtain ⟨γ1, w1, h1, h2, h4⟩ := aop_ok (w := w) hE hR hev hop
        have hs := op_skipd (P := E.P) (b := b) (k := k) (cs := cs) (rest := l) ho hwb h2
        have := ih l _ H1 e fr' H' he hi γ1 base w0 w1 b (a.put o.dst undef) k cs h4 ((hF.ext h1).put o.dst VRel.undef) (by rw [(hrcp _ _).2]; exact hP.ext h1)
        rw [(hrcp _ _).1] at this
        exact (this.more h1 (Chg.refl _ _)).after (.one hs)
      · rename_i f args H1 hop
        obtain ⟨args', h1, h2, h3⟩ := aop_ok (w := w) hE hR hev hop
        subst h3
        have hs := op_enter (P := E.P) (b := b) (k := k) (cs := cs) (rest := l) ho hwb h1
        split at he
        · rename_i v H2 hcl
          obtain ⟨γ1, w1, fr1, cs1, g1, g2, g3, g4, v', g5, g6, g7, g8, g9, g10, fn, g11, g12⟩ := hc f args _ none _ H2 false hcl γ base w0 w args' .normal (b.at a (.inRegion ops (i :: l) :: k) :: cs) hR h2 (Rc.normal _ _ _)
          have hcs : cs1 = b.at a (.inRegion ops (i :: l) :: k) :: cs := by
            rcases g3 with ⟨_, q⟩ | ⟨_, q, _⟩
            · exact q
            · cases q
          subst hcs
          have hl := step_leave_returned (P := E.P) (fr := fr1) (c := b.at a (.inRegion ops (i :: l) :: k)) (cs := cs) (w := w1) (v := v') ⟨g6, g7, g8, fn, by rw [g9]; exact g11, g12⟩
          rw [op_fin ho] at hl
          have := ih l _ H2 e fr' H' he hi γ1 base w0 w1 b (a.put o.dst v') k cs g2 ((hF.ext g1).put o.dst g5) (by rw [(hrcp _ _).2]; exact hP.ext g1)
          rw [(hrcp _ _).1] at this
          exact (this.more g1 (Chg.refl _ _)).after ((Steps.one hs).trans (g4.trans (.one hl)))
        · rename_i v H2 hcl
          obtain ⟨γ1, w1, fr1, cs1, g1, g2, g3, g4, v', g5, g6, g7, g8, g9, fn, g10⟩ := hc f args _ none _ H2 false hcl γ base w0 w args' .normal (b.at a (.inRegion ops (i :: l) :: k) :: cs) hR h2 (Rc.normal _ _ _)
          have hcs : cs1 = b.at a (.inRegion ops (i :: l) :: k) :: cs := by
            rcases g3 with ⟨_, q⟩ | ⟨_, q, _⟩
            · exact q
            · cases q
          subst hcs
          have hl := step_leave_panicked (P := E.P) (fr := fr1) (c := b.at a (.inRegion ops (i :: l) :: k)) (cs := cs) (w := w1) (chain := [{ v := v', recovered := false }]) ⟨g6, g7, fn, by rw [g9]; exact g10⟩
          rw [Frame.raise_at] at hl
          injection he with he; injection he with e1 e2; injection e2 with e2 e3; subst e1 e2 e3
          exact ⟨γ1, a, w1, cs, g1, g2, (hF.ext g1).weak, hP.ext g1, Chg.refl _ _, _, v', g5, (Steps.one hs).trans (g4.trans (.one hl))⟩
        · cases he
      · rename_i f ar ca H1 hop
        obtain ⟨ar', ca', h1, h2, h3, h4⟩ := aop_ok (w := w) hE hR hev hop
        subst h4
        have hs := op_defer (P := E.P) (b := b) (k := k) (cs := cs) (rest := l) ho hwb h1
        have hF2 : FrRel γ H1.next { fr with df := ⟨f, ar, ca⟩ :: fr.df } { a with defers := { target := .fn (.func f) ⟨ca'⟩, args := ⟨ar'⟩ } :: a.defers } := ⟨hF.tm, .cons _ _ _ _ ⟨ar', ca', rfl, h2, h3⟩ hF.df⟩
        have := ih l _ H1 e fr' H' he hi γ base w0 w b _ k cs hR (hF2.put o.dst VRel.undef) (by rw [(hrcp _ _).2]; exact hP)
        rw [(hrcp _ _).1] at this
        exact this.after (.one hs)
      · rename_i H1 hop
        obtain ⟨h1, h2⟩ := aop_ok (w := w) hE hR hev hop
        subst h2
        split at he
        · rename_i v hpk hrcf
          rw [hpk] at hP
          obtain ⟨hkd, c, r, v', older, hcs, hm, hv⟩ := hP
          subst hcs
          have hs := op_recover_some (P := E.P) (b := b) (k := k) (rest := l) ho hwb h1 (tryRecover_yes (fr := b.at a (.inRegion ops (i :: l) :: k)) (r := r) hkd hm)
          have hF2 : FrRel γ H1.next { fr with pk := none, rc := true } a := ⟨hF.tm, hF.df⟩
          have hP2 : Rc γ H1.next b.kind ({ c with mode := .panicking ({ v := v', recovered := true } :: older) } :: r) none := by
            intro fr0 hk0
            unfold tryRecover
            rw [hk0, hkd]
          have := ih l _ H1 e fr' H' he hi γ base w0 w b _ k _ hR (hF2.put o.dst hv) (by rw [(hrcp _ _).2]; exact hP2)
          rw [(hrcp _ _).1] at this
          exact (this.more (Ext.refl _ _) (by rw [hrcf]; exact .inr ⟨rfl, rfl, c, r, v', older, rfl, hm, rfl⟩)).after (.one hs)
        · rename_i hpk
          rw [hpk] at hP
          have hs := op_recover_none (P := E.P) (b := b) (k := k) (cs := cs) (rest := l) ho hwb h1 (hP _ rfl)
          have := ih l _ H1 e fr' H' he hi γ base w0 w b _ k cs hR (hF.put o.dst .nilif) (by rw [(hrcp _ _).2, hpk]; exact hP)
          rw [(hrcp _ _).1] at this
          exact this.after (.one hs)
        · cases he
      · rename_i v H1 hop
        obtain ⟨v', h1, h2, h3⟩ := aop_ok (w := w) hE hR hev hop
        subst h3
        have hs := op_panic (P := E.P) (b := b) (k := k) (cs := cs) (rest := l) ho hwb h1
        injection he with he; injection he with e1 e2; injection e2 with e2 e3; subst e1 e2 e3
        exact ⟨γ, a, w, cs, Ext.refl _ _, hR, hF.weak, hP, Chg.refl _ _, _, v', h2, .one hs⟩
      · cases he
end
end Go.Proofs.YtkgplklamfpfkaaGreatDoor.Sh
