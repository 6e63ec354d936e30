import Derived.Test.YtohgenhjdgdkgaaGreatDoorShSE
namespace Go.Proofs.YtohgenhjdgdkgaaGreatDoor.Sh
open Go.RowKit
set_option linter.unusedVariables false
set_option linter.unusedSimpArgs false

/-! ### soundness: operations one by one -/
noncomputable def Left (P : Program) (f : FuncId) (kd : CallKind) (fr : Frame) (w : World) (γ : Nat → G) (n : Nat) : CR → Prop
  | .ret v => ∃ v', VRel γ n v v' ∧ fr.mode = .returning ∧ fr.defers = [] ∧ fr.kind = kd ∧ fr.fn = f ∧ fr.roundOf = none ∧ ∃ fn, P.funcs[f]? = some fn ∧ (results fn fr.tmps).run P w = .ok v' w
  | .pan v => ∃ v', VRel γ n v v' ∧ fr.mode = .panicking [{ v := v', recovered := false }] ∧ fr.defers = [] ∧ fr.kind = kd ∧ fr.fn = f ∧ ∃ fn, P.funcs[f]? = some fn
/-- Behind a call, in the caller's frame. -/
noncomputable def Back (P : Program) (M : Machine) (c : Frame) (cs : List Frame) (w : World) (γ : Nat → G) (n : Nat) : CR → Prop
  | .ret v => ∃ v', VRel γ n v v' ∧ Steps P M (lone (c.finish v') cs w)
  | .pan v => ∃ v', VRel γ n v v' ∧ Steps P M (lone (c.raise [{ v := v', recovered := false }]) cs w)
noncomputable def CallOK (E : FEnv) (call : CallT) : Prop := ∀ (t : Tgt) (args : List Value) (H : AH) (r : CR) (H' : AH), call t args H none = some (r, H', false) →
  ∀ (γ : Nat → G) (base : Bs) (w0 w : World) (s : Sem Next), HRel γ base w0 H w → ANOK E.P base w0 γ H w s (.enter t args) H → ∀ (c : Frame) (cs : List Frame),
    ∃ M γ' w', Into E.P s w c cs M ∧ Ext γ H.next γ' H'.next ∧ HRel γ' base w0 H' w' ∧ Back E.P M c cs w' γ' H'.next r
noncomputable def Arr (P : Program) (m : Machine) (b : Frame) (a : Act) (k : List Item) (cs : List Frame) (w : World) (γ : Nat → G) (n : Nat) : Ex → Prop
  | .normal => Steps P m (lone (b.atR a k) cs w)
  | .exit id => ∃ k1, exitTo id k1 = exitTo id k ∧ Steps P m (lone (b.atR a (.code (.exit id) :: k1)) cs w)
  | .ret => ∃ k1, Steps P m (lone (b.atR a (.code .ret :: k1)) cs w)
  | .goto l => ∃ k1, gotoIn l k1 = gotoIn l k ∧ Steps P m (lone (b.atR a (.code (.goto l) :: k1)) cs w)
  | .panic v => ∃ todo v', VRel γ n v v' ∧ Steps P m (lone { b.atR a todo with mode := .panicking [{ v := v', recovered := false }] } cs w)
theorem Arr.of_steps {P : Program} {m m1 : Machine} {b : Frame} {a : Act} {k : List Item} {cs : List Frame} {w : World} {γ : Nat → G} {n : Nat} {e : Ex} (h : Steps P m m1) (k' : Arr P m1 b a k cs w γ n e) : Arr P m b a k cs w γ n e := by
  cases e with
  | normal => exact h.trans k'
  | exit id => obtain ⟨k1, hk, s⟩ := k'; exact ⟨k1, hk, h.trans s⟩
  | ret => obtain ⟨t, s⟩ := k'; exact ⟨t, h.trans s⟩
  | goto l => obtain ⟨k1, hk, s⟩ := k'; exact ⟨k1, hk, h.trans s⟩
  | panic v => obtain ⟨t, v', hv, s⟩ := k'; exact ⟨t, v', hv, h.trans s⟩
/-- What is shown of a piece of code that runs in a frame. -/
noncomputable def Runs (P : Program) (m : Machine) (b : Frame) (k : List Item) (cs : List Frame) (γ : Nat → G) (base : Bs) (w0 : World) (n : Nat) (rc : Bool) (e : Ex) (fr' : Fr) (H' : AH) : Prop :=
  ∃ γ' a' w' cs', Ext γ n γ' H'.next ∧ HRel γ' base w0 H' w' ∧ FrX e γ' H'.next fr' a' ∧ Rc γ' H'.next b.kind cs' fr'.pk ∧ RO γ' H'.next fr'.rnd b.roundOf ∧ Chg cs cs' rc fr'.rc ∧ Arr P m b a' k cs' w' γ' H'.next e
theorem Runs.after {P : Program} {m m1 : Machine} {b : Frame} {k : List Item} {cs : List Frame} {γ : Nat → G} {base : Bs} {w0 : World} {n : Nat} {rc : Bool} {e : Ex} {fr' : Fr} {H' : AH} (h : Steps P m m1) (r : Runs P m1 b k cs γ base w0 n rc e fr' H') : Runs P m b k cs γ base w0 n rc e fr' H' := by
  obtain ⟨γ', a', w', cs', h1, h2, h3, h4, h4r, h5, h6⟩ := r
  exact ⟨γ', a', w', cs', h1, h2, h3, h4, h4r, h5, .of_steps h h6⟩
theorem Runs.more {P : Program} {m : Machine} {b : Frame} {k : List Item} {cs cs1 : List Frame} {γ γ1 : Nat → G} {base : Bs} {w0 : World} {n n1 : Nat} {rc rc1 : Bool} {e : Ex} {fr' : Fr} {H' : AH} (he : Ext γ n γ1 n1) (hc : Chg cs cs1 rc rc1) (r : Runs P m b k cs1 γ1 base w0 n1 rc1 e fr' H') : Runs P m b k cs γ base w0 n rc e fr' H' := by
  obtain ⟨γ', a', w', cs', h1, h2, h3, h4, h4r, h5, h6⟩ := r
  exact ⟨γ', a', w', cs', he.trans h1, h2, h3, h4, h4r, hc.trans h5, h6⟩
inductive Idx (ops : Array Oper) : List Nat → List Oper → Prop where
  | nil : Idx ops [] []
  | cons (i : Nat) (o : Oper) (l : List Nat) (r : List Oper) : ops[i]? = some o → Idx ops l r → Idx ops (i :: l) (o :: r)
theorem Idx.range (ops : Array Oper) : ∀ (n i : Nat), i + n = ops.size → Idx ops (List.range' i n) (ops.toList.drop i) := by
  intro n
  induction n with
  | zero => intro i h; rw [List.drop_of_length_le (by simp; omega)]; exact .nil
  | succ n ih =>
    intro i h
    have hi : i < ops.toList.length := by simp; omega
    rw [List.range'_succ, List.drop_eq_getElem_cons hi]
    exact .cons i _ _ _ (by rw [← Array.getElem?_toList]; exact List.getElem?_eq_getElem hi) (ih (i + 1) (by omega))
theorem tryRecover_yes {fr : Frame} {c : Frame} {r : List Frame} {v : Value} {older : List PanicEntry} (hk : fr.kind = .deferred) (hm : c.mode = .panicking ({ v := v, recovered := false } :: older)) : tryRecover fr (c :: r) = some (v, { c with mode := .panicking ({ v := v, recovered := true } :: older) } :: r) := by
  unfold tryRecover
  rw [hk]
  simp only [hm]
section
variable {E : FEnv} {call : CallT}
theorem Rc.normal (γ : Nat → G) (n : Nat) (cs : List Frame) : Rc γ n .normal cs none := by
  intro fr h
  unfold tryRecover
  rw [h]
theorem enter_same {P : Program} {base : Bs} {w0 : World} {γ : Nat → G} {H H1 : AH} {w : World} {s : Sem Next} {t : Tgt} {args : List Value} (h : ANOK P base w0 γ H w s (.enter t args) H1) : H1 = H := by
  cases t with
  | fn f => obtain ⟨_, _, _, q⟩ := h; exact q
  | yl y => obtain ⟨_, _, _, q, _⟩ := h; exact q
set_option maxHeartbeats 1000000 in
theorem evOps_ok (hE : E.OK) (hc : CallOK E call) (ops : Array Oper) : ∀ (rest : List Oper) (l : List Nat) (fr : Fr) (H : AH) (e : Ex) (fr' : Fr) (H' : AH), evOps E call ops.toList rest fr H = some (e, fr', H') → Idx ops l rest →
    ∀ (γ : Nat → G) (base : Bs) (w0 w : World) (b : Frame) (a : Act) (k : List Item) (cs : List Frame), HRel γ base w0 H w → FrRel γ H.next fr a → Rc γ H.next b.kind cs fr.pk → RO γ H.next fr.rnd b.roundOf →
      Runs E.P (lone (b.atR a (.inRegion ops l :: k)) cs w) b k cs γ base w0 H.next fr.rc e fr' H' := by
  intro rest
  induction rest with
  | nil =>
    intro l fr H e fr' H' he hi γ base w0 w b a k cs hR hF hP hQ
    cases hi
    injection he with he; injection he with e1 e2; injection e2 with e2 e3; subst e1 e2 e3
    exact ⟨γ, a, w, cs, Ext.refl _ _, hR, hF, hP, hQ, Chg.refl _ _, .one stepR_region_end⟩
  | cons o rest ih =>
    intro l fr H e fr' H' he hi γ base w0 w b a k cs hR hF hP hQ
    cases hi with
    | cons i _ l _ ho hi =>
    have hwb := wantedB_ok (ops := ops) hF.tm o
    have hrcp : ∀ (f : Fr) (v : Value), (f.put o.dst v).rc = f.rc ∧ (f.put o.dst v).pk = f.pk ∧ (f.put o.dst v).rnd = f.rnd := by
      intro f v; unfold Fr.put; cases o.dst <;> simp only <;> (try split) <;> first | exact ⟨rfl, rfl, rfl⟩ | exact ⟨trivial, trivial, trivial⟩
    unfold evOps at he
    split at he
    · -- it is not wanted
      rename_i hw
      rw [hw] at hwb
      have hs := stepR_op_skip (P := E.P) (b := b) (a := a) (k := k) (cs := cs) (w := w) (ops := ops) (i := i) (rest := l) (by simp [ho, hwb])
      rw [ho] at hs
      have := ih l _ H e fr' H' he hi γ base w0 w b _ k cs hR (hF.put o.dst VRel.undef) (by rw [(hrcp _ _).2.1]; exact hP) (by rw [(hrcp _ _).2.2]; exact hQ)
      rw [(hrcp _ _).1] at this
      exact this.after (.one hs)
    · rename_i hw
      rw [hw] at hwb
      have hev := evF_ok hR hF.tm
      split at he
      · rename_i v H1 hop
        obtain ⟨γ1, v', w1, h1, h2, h3, h4⟩ := aop_ok (w := w) hE hR hev hop
        have hs := op_value (P := E.P) (b := b) (k := k) (cs := cs) (rest := l) ho hwb (aop_semAt hop (fun _ _ _ q => by cases q) _ _) h2
        have := ih l _ H1 e fr' H' he hi γ1 base w0 w1 b (a.put o.dst v') k cs h4 ((hF.ext h1).put o.dst h3) (by rw [(hrcp _ _).2.1]; exact hP.ext h1) (by rw [(hrcp _ _).2.2]; exact hQ.ext h1)
        rw [(hrcp _ _).1] at this
        exact (this.more h1 (Chg.refl _ _)).after (.one hs)
      · rename_i H1 hop
        obtain ⟨γ1, w1, h1, h2, h4⟩ := aop_ok (w := w) hE hR hev hop
        have hs := op_skipd (P := E.P) (b := b) (k := k) (cs := cs) (rest := l) ho hwb (aop_semAt hop (fun _ _ _ q => by cases q) _ _) h2
        have := ih l _ H1 e fr' H' he hi γ1 base w0 w1 b (a.put o.dst undef) k cs h4 ((hF.ext h1).put o.dst VRel.undef) (by rw [(hrcp _ _).2.1]; exact hP.ext h1) (by rw [(hrcp _ _).2.2]; exact hQ.ext h1)
        rw [(hrcp _ _).1] at this
        exact (this.more h1 (Chg.refl _ _)).after (.one hs)
      · rename_i f args H1 hop
        have hA := aop_ok (w := w) hE hR hev hop
        have hH1 : H1 = H := by
          cases f with
          | fn f => obtain ⟨_, _, _, q⟩ := hA; exact q
          | yl y => obtain ⟨_, _, _, q, _⟩ := hA; exact q
        subst hH1
        have hd := aop_semAt hop (fun _ _ _ q => by cases q) b.roundOf a.eval
        split at he
        · rename_i v H2 hcl
          obtain ⟨M, γ1, w1, hi1, g1, g2, v', g5, g4⟩ := hc f args _ _ H2 hcl γ base w0 w _ hR hA (b.atR a (.inRegion ops (i :: l) :: k)) cs
          rw [op_fin ho] at g4
          have := ih l _ H2 e fr' H' he hi γ1 base w0 w1 b (a.put o.dst v') k cs g2 ((hF.ext g1).put o.dst g5) (by rw [(hrcp _ _).2.1]; exact hP.ext g1) (by rw [(hrcp _ _).2.2]; exact hQ.ext g1)
          rw [(hrcp _ _).1] at this
          exact (this.more g1 (Chg.refl _ _)).after ((Steps.one (op_into ho hwb hd hi1)).trans g4)
        · rename_i v H2 hcl
          obtain ⟨M, γ1, w1, hi1, g1, g2, v', g5, g4⟩ := hc f args _ _ H2 hcl γ base w0 w _ hR hA (b.atR a (.inRegion ops (i :: l) :: k)) cs
          rw [Frame.raise_atR] at g4
          injection he with he; injection he with e1 e2; injection e2 with e2 e3; subst e1 e2 e3
          exact ⟨γ1, a, w1, cs, g1, g2, (hF.ext g1).weak, hP.ext g1, hQ.ext g1, Chg.refl _ _, _, v', g5, (Steps.one (op_into ho hwb hd hi1)).trans g4⟩
        · cases he
      · rename_i f ar ca H1 hop
        obtain ⟨ar', ca', h1, h2, h3, h4⟩ := aop_ok (w := w) hE hR hev hop
        subst h4
        split at he
        case h_2 => cases he
        rename_i hrn
        have hro : b.roundOf = none := by rw [hrn] at hQ; exact hQ
        have hs := op_defer (P := E.P) (b := b) (k := k) (cs := cs) (rest := l) ho hwb hro h1
        have hF2 : FrRel γ H1.next { fr with df := .call f ar ca :: fr.df } { a with defers := { target := .fn (.func f) ⟨ca'⟩, args := ⟨ar'⟩ } :: a.defers } := ⟨hF.tm, .cons _ _ _ _ ⟨ar', ca', rfl, h2, h3⟩ hF.df⟩
        have := ih l _ H1 e fr' H' he hi γ base w0 w b _ k cs hR (hF2.put o.dst VRel.undef) (by rw [(hrcp _ _).2.1]; exact hP) (by rw [(hrcp _ _).2.2]; exact hQ)
        rw [(hrcp _ _).1] at this
        exact this.after (.one hs)
      · rename_i H1 hop
        obtain ⟨h1, h2⟩ := aop_ok (w := w) hE hR hev hop
        subst h2
        split at he
        · rename_i v hrn hpk hrcf
          have hro : b.roundOf = none := by rw [hrn] at hQ; exact hQ
          rw [hpk] at hP
          obtain ⟨hkd, c, r, v', older, hcs, hm, hv⟩ := hP
          subst hcs
          have hs := op_recover_some (P := E.P) (b := b) (k := k) (rest := l) ho hwb hro h1 (tryRecover_yes (fr := b.atR a (.inRegion ops (i :: l) :: k)) (r := r) hkd hm)
          have hF2 : FrRel γ H1.next { fr with pk := none, rc := true } a := ⟨hF.tm, hF.df⟩
          have hP2 : Rc γ H1.next b.kind ({ c with mode := .panicking ({ v := v', recovered := true } :: older) } :: r) none := by
            intro fr0 hk0
            unfold tryRecover
            rw [hk0, hkd]
          have := ih l _ H1 e fr' H' he hi γ base w0 w b _ k _ hR (hF2.put o.dst hv) (by rw [(hrcp _ _).2.1]; exact hP2) (by rw [(hrcp _ _).2.2]; exact hQ)
          rw [(hrcp _ _).1] at this
          exact (this.more (Ext.refl _ _) (by rw [hrcf]; exact .inr ⟨rfl, rfl, c, r, v', older, rfl, hm, rfl⟩)).after (.one hs)
        · rename_i hrn hpk
          have hro : b.roundOf = none := by rw [hrn] at hQ; exact hQ
          rw [hpk] at hP
          have hs := op_recover_none (P := E.P) (b := b) (k := k) (cs := cs) (rest := l) ho hwb hro h1 (hP _ rfl)
          have := ih l _ H1 e fr' H' he hi γ base w0 w b _ k cs hR (hF.put o.dst .nilif) (by rw [(hrcp _ _).2.1, hpk]; exact hP) (by rw [(hrcp _ _).2.2]; exact hQ)
          rw [(hrcp _ _).1] at this
          exact this.after (.one hs)
        · cases he
      · rename_i v H1 hop
        obtain ⟨v', h1, h2, h3⟩ := aop_ok (w := w) hE hR hev hop
        subst h3
        have hs := op_panic (P := E.P) (b := b) (k := k) (cs := cs) (rest := l) ho hwb (aop_semAt hop (fun _ _ _ q => by cases q) _ _) h1
        injection he with he; injection he with e1 e2; injection e2 with e2 e3; subst e1 e2 e3
        exact ⟨γ, a, w, cs, Ext.refl _ _, hR, hF.weak, hP, hQ, Chg.refl _ _, _, v', h2, .one hs⟩
      · cases he
end
end Go.Proofs.YtohgenhjdgdkgaaGreatDoor.Sh
