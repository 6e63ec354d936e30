import Derived.Test.YtohgenhjdgdkgaaGreatDoorShSJ
namespace Go.Proofs.YtohgenhjdgdkgaaGreatDoor.Sh
open Go.RowKit
set_option linter.unusedVariables false
set_option linter.unusedSimpArgs false

theorem writerGo_spec (t : Tmp) : ∀ (r : List Oper) (i : Nat), (∀ j, writerGo t r i = some j → i ≤ j ∧ ∃ o, r[j - i]? = some o ∧ o.dst = some t) ∧ (writerGo t r i = none → ∀ o ∈ r, o.dst ≠ some t) := by
  intro r
  induction r with
  | nil => intro i; exact ⟨fun j h => by simp [writerGo] at h, fun _ o h => by simp at h⟩
  | cons o r ih =>
    intro i
    obtain ⟨h1, h2⟩ := ih (i + 1)
    have shift : ∀ j, writerGo t r (i + 1) = some j → i ≤ j ∧ ∃ o', (o :: r)[j - i]? = some o' ∧ o'.dst = some t := fun j h => by
      obtain ⟨g1, o', g2, g3⟩ := h1 j h
      exact ⟨by omega, o', by rw [show j - i = (j - (i + 1)) + 1 by omega]; simpa using g2, g3⟩
    unfold writerGo
    cases hd : o.dst with
    | none =>
      simp only
      exact ⟨shift, fun h o' ho' => by
        rcases List.mem_cons.1 ho' with q | q
        · subst q; rw [hd]; exact fun q => by cases q
        · exact h2 h o' q⟩
    | some d =>
      simp only
      cases hb : Nat.beq d t with
      | true =>
        have := Nat.eq_of_beq_eq_true hb
        subst this
        simp only
        refine ⟨fun j h => ?_, fun h => by cases h⟩
        injection h with h; subst h
        exact ⟨Nat.le_refl _, o, by simp, hd⟩
      | false =>
        have hne := Nat.ne_of_beq_eq_false hb
        simp only
        exact ⟨shift, fun h o' ho' => by
          rcases List.mem_cons.1 ho' with q | q
          · subst q; rw [hd]; exact fun q => hne (by injection q)
          · exact h2 h o' q⟩
theorem writer_some {ops : List Oper} {t : Tmp} {j : Nat} (h : writer ops t = some j) : ∃ o, ops[j]? = some o ∧ o.dst = some t := by
  obtain ⟨_, o, h1, h2⟩ := (writerGo_spec t ops 0).1 j h
  exact ⟨o, by simpa using h1, h2⟩
theorem writer_none {ops : List Oper} {t : Tmp} (h : writer ops t = none) : ∀ o ∈ ops, o.dst ≠ some t := (writerGo_spec t ops 0).2 h
structure Stat (E : FEnv) (ops : List Oper) (ord R : List Nat) (nt : Nat) : Prop where
  bel : below ops = true
  ol : ord.length = ops.length
  o1 : ∀ i, i < ops.length → ord[rk R i]? = some i
  o2 : ∀ k, k < ops.length → ∃ i, i < ops.length ∧ ord[k]? = some i ∧ rk R i = k
  top : ∀ i j, i < ops.length → j < ops.length → bitAt ((masks ops).getD i 0) j = true → rk R j < rk R i
  lt : ∀ (i : Nat) (o : Oper) (d : Tmp), ops[i]? = some o → o.dst = some d → d < nt
  wr : ∀ (i : Nat) (o : Oper) (d : Tmp), ops[i]? = some o → o.dst = some d → writer ops d = some i
  look : ∀ (i : Nat) (o : Oper) (t : Tmp) (j : Nat), ops[i]? = some o → t ∈ looks ops o → writer ops t = some j → bitAt ((masks ops).getD i 0) j = true ∨ bitAt ((masks ops).getD j 0) i = true
  chain : ∀ (i : Nat) (o : Oper), ops[i]? = some o → isHeap E o = true → (∀ j ∈ heapsBefore E ops R (rk R i), bitAt ((masks ops).getD i 0) j = true) ∨
    (movable o.op = true ∧ noGlob (opsOf o.op) = true ∧ ∀ k, k < ops.length → bitAt ((masks ops).getD k 0) i = true → derivFor ops (masks ops) i k = true ∨ ∀ j ∈ heapsBefore E ops R (rk R i), bitAt ((masks ops).getD k 0) j = true)
theorem Stat.rk_lt {E : FEnv} {ops : List Oper} {ord R : List Nat} {nt : Nat} (h : Stat E ops ord R nt) {i : Nat} (hi : i < ops.length) : rk R i < ops.length := by
  have := (List.getElem?_eq_some_iff.1 (h.o1 i hi)).1
  rw [h.ol] at this
  exact this
theorem Stat.rk_inj {E : FEnv} {ops : List Oper} {ord R : List Nat} {nt : Nat} (h : Stat E ops ord R nt) {i j : Nat} (hi : i < ops.length) (hj : j < ops.length) (e : rk R i = rk R j) : i = j := by
  have h1 := h.o1 i hi
  rw [e, h.o1 j hj] at h1
  injection h1 with h1
  exact h1.symm
theorem stat_of {E : FEnv} {ops : List Oper} {ord R : List Nat} {nt : Nat} (h : statOK E ops (masks ops) ord R = true) (hlt : ltOK ops nt = true) : Stat E ops ord R nt := by
  unfold statOK at h
  rw [Bool.and_eq_true, Bool.and_eq_true] at h
  obtain ⟨⟨hbl, hord⟩, hst⟩ := h
  unfold ordOK at hord
  rw [Bool.and_eq_true] at hord
  have ho : ∀ i, i < ops.length → ((match ord[rk R i]? with
      | some j => Nat.beq j i
      | none => false) = true ∧ (match ord[i]? with
      | some j => Nat.blt j ops.length && Nat.beq (rk R j) i
      | none => false) = true) ∧ ((List.range ops.length).all fun j => !(bitAt ((masks ops).getD i 0) j) || Nat.blt (rk R j) (rk R i)) = true := fun i hi => by
    have := List.all_eq_true.1 hord.2 i (List.mem_range.2 hi)
    simp only [Bool.and_eq_true] at this
    exact this
  have hall : ∀ (i : Nat) (o : Oper), ops[i]? = some o → ((match o.dst with
      | some d => (match writer ops d with
        | some j => Nat.beq j i
        | none => false)
      | none => true) = true ∧
      ((looks ops o).all fun t => match writer ops t with
        | some j => bitAt ((masks ops).getD i 0) j || bitAt ((masks ops).getD j 0) i
        | none => true) = true) ∧
      (match isHeap E o with
      | true => ((heapsBefore E ops R (rk R i)).all fun j => bitAt ((masks ops).getD i 0) j) || mayEarly E ops (masks ops) R i o
      | false => true) = true := fun i o ho => by
    have hi := (List.getElem?_eq_some_iff.1 ho).1
    have := List.all_eq_true.1 hst i (List.mem_range.2 hi)
    rw [ho] at this
    simp only [Bool.and_eq_true] at this
    exact this
  refine ⟨hbl, Nat.eq_of_beq_eq_true hord.1, ?_, ?_, ?_, ?_, ?_, ?_, ?_⟩
  · intro i hi
    have := (ho i hi).1.1
    split at this
    · rename_i j hj; rw [hj, Nat.eq_of_beq_eq_true this]
    · cases this
  · intro k hk
    have := (ho k hk).1.2
    split at this
    · rename_i j hj
      rw [Bool.and_eq_true, blt_eq] at this
      exact ⟨j, of_decide_eq_true this.1, hj, Nat.eq_of_beq_eq_true this.2⟩
    · cases this
  · intro i j hi hj hb
    have := List.all_eq_true.1 (ho i hi).2 j (List.mem_range.2 hj)
    rw [hb, blt_eq] at this
    simp only [Bool.not_true, Bool.false_or] at this
    exact of_decide_eq_true this
  · intro i o d ho hd
    have := List.all_eq_true.1 hlt o (List.mem_of_getElem? ho)
    rw [hd] at this
    simp only at this
    rw [blt_eq] at this
    exact of_decide_eq_true this
  · intro i o d ho hd
    have := (hall i o ho).1.1
    rw [hd] at this
    simp only at this
    have h2 := this
    cases hw : writer ops d with
    | none => rw [hw] at h2; cases h2
    | some j => rw [hw] at h2; rw [Nat.eq_of_beq_eq_true h2]
  · intro i o t j ho ht hw
    have := List.all_eq_true.1 (hall i o ho).1.2 t ht
    rw [hw] at this
    simpa [Bool.or_eq_true] using this
  · intro i o ho hh
    have := (hall i o ho).2
    rw [hh] at this
    rcases Bool.or_eq_true _ _ ▸ this with q | q
    · exact .inl fun j hj => List.all_eq_true.1 q j hj
    · right
      unfold mayEarly at q
      rw [Bool.and_eq_true, Bool.and_eq_true] at q
      refine ⟨q.1.1, q.1.2, fun k hk hb => ?_⟩
      have := List.all_eq_true.1 q.2 k (List.mem_range.2 hk)
      rw [hb] at this
      simp only [Bool.not_true, Bool.false_or, Bool.or_eq_true] at this
      rcases this with this | this
      · exact .inl this
      · exact .inr fun j hj => List.all_eq_true.1 this j hj
theorem perm_get {ops : List Oper} {ord : List Nat} {k i : Nat} {o : Oper} (h : ord[k]? = some i) (ho : ops[i]? = some o) : (permOps ops ord)[k]? = some o := by
  unfold permOps
  rw [List.getElem?_map, h]
  simp [ho]
noncomputable def putT (o : Oper) (tm : F Value) (v : Value) : F Value := match o.dst with
  | some d => tm.set undef d v
  | none => tm
noncomputable def tmA : List Oper → List (Value × AH) → Nat → F Value → F Value
  | o :: r, x :: l, k + 1, tm => tmA r l k (putT o tm x.1)
  | _, _, _, tm => tm
noncomputable def hAt (l : List (Value × AH)) (HF : AH) (i : Nat) : AH := match l[i]? with
  | some x => x.2
  | none => HF
noncomputable def vAt (l : List (Value × AH)) (i : Nat) : Value := match l[i]? with
  | some x => x.1
  | none => undef
noncomputable def StepR (E : FEnv) (call : CallT) (ev : Ev) (H : AH) (o : Oper) (v : Value) (H' : AH) : Prop :=
  aop E ev o.op H = some (.val v, H') ∨ (aop E ev o.op H = some (.skip, H') ∧ v = undef) ∨ ∃ f args H1, aop E ev o.op H = some (.enter f args, H1) ∧ call f args H1 none = some (.ret v, H', false)
theorem pass1_spec {E : FEnv} {call : CallT} {all : List Oper} : ∀ (r : List Oper) (tm : F Value) (H : AH) (l : List (Value × AH)) (tmF : F Value) (HF : AH), pass1 E call all r tm H = some (l, tmF, HF) →
    l.length = r.length ∧ tmF = tmA r l r.length tm ∧ hAt l HF 0 = H ∧ ∀ (k : Nat) (o : Oper), r[k]? = some o →
      (wantedB all (tmA r l k tm) o = false ∧ vAt l k = undef ∧ hAt l HF (k + 1) = hAt l HF k) ∨ (wantedB all (tmA r l k tm) o = true ∧ StepR E call (evF (tmA r l k tm) (hAt l HF k).g0) (hAt l HF k) o (vAt l k) (hAt l HF (k + 1))) := by
  intro r
  induction r with
  | nil =>
    intro tm H l tmF HF h
    injection h with h; injection h with e1 e2; injection e2 with e2 e3; subst e1 e2 e3
    exact ⟨rfl, rfl, rfl, fun k o ho => by simp at ho⟩
  | cons o r ih =>
    intro tm H l tmF HF h
    have key : ∀ (v : Value) (H1 : AH) (l1 : List (Value × AH)), pass1 E call all r (putT o tm v) H1 = some (l1, tmF, HF) → l = (v, H) :: l1 → ((wantedB all tm o = false ∧ v = undef ∧ H1 = H) ∨ (wantedB all tm o = true ∧ StepR E call (evF tm H.g0) H o v H1)) →
        l.length = (o :: r).length ∧ tmF = tmA (o :: r) l (o :: r).length tm ∧ hAt l HF 0 = H ∧ ∀ (k : Nat) (o' : Oper), (o :: r)[k]? = some o' →
      (wantedB all (tmA (o :: r) l k tm) o' = false ∧ vAt l k = undef ∧ hAt l HF (k + 1) = hAt l HF k) ∨ (wantedB all (tmA (o :: r) l k tm) o' = true ∧ StepR E call (evF (tmA (o :: r) l k tm) (hAt l HF k).g0) (hAt l HF k) o' (vAt l k) (hAt l HF (k + 1))) := by
      intro v H1 l1 hp hl hst
      subst hl
      obtain ⟨g1, g2, g3, g4⟩ := ih _ _ _ _ _ hp
      have hs : ∀ k, hAt ((v, H) :: l1) HF (k + 1) = hAt l1 HF k := fun k => by simp [hAt]
      have hv : ∀ k, vAt ((v, H) :: l1) (k + 1) = vAt l1 k := fun k => by simp [vAt]
      refine ⟨by simp [g1], g2, rfl, fun k o' ho' => ?_⟩
      cases k with
      | zero =>
        simp at ho'
        subst ho'
        rw [hs, g3]
        exact hst
      | succ k =>
        rw [hs, hs, hv]
        exact g4 k o' (by simpa using ho')
    unfold pass1 at h
    simp only at h
    split at h
    · rename_i hw
      split at h
      case h_2 => cases h
      rename_i l1 x hp
      injection h with h; injection h with e1 e2
      subst e2
      exact key undef H l1 hp e1.symm (.inl ⟨hw, rfl, rfl⟩)
    · rename_i hw
      split at h
      · rename_i v H1 ha
        split at h
        case h_2 => cases h
        rename_i l1 x hp
        injection h with h; injection h with e1 e2
        subst e2
        exact key v H1 l1 hp e1.symm (.inr ⟨hw, .inl ha⟩)
      · rename_i H1 ha
        split at h
        case h_2 => cases h
        rename_i l1 x hp
        injection h with h; injection h with e1 e2
        subst e2
        exact key undef H1 l1 hp e1.symm (.inr ⟨hw, .inr (.inl ⟨ha, rfl⟩)⟩)
      · rename_i f args H1 ha
        split at h
        case h_2 => cases h
        rename_i v H2 hcl
        split at h
        case h_2 => cases h
        rename_i l1 x hp
        injection h with h; injection h with e1 e2
        subst e2
        exact key v H2 l1 hp e1.symm (.inr ⟨hw, .inr (.inr ⟨f, args, H1, ha, hcl⟩)⟩)
      · cases h
theorem tmA_succ : ∀ (r : List Oper) (l : List (Value × AH)) (k : Nat) (tm : F Value) (o : Oper), l.length = r.length → r[k]? = some o → tmA r l (k + 1) tm = putT o (tmA r l k tm) (vAt l k) := by
  intro r
  induction r with
  | nil => intro l k tm o _ h; simp at h
  | cons o' r ih =>
    intro l k tm o hl h
    cases l with
    | nil => simp at hl
    | cons x l =>
      cases k with
      | zero =>
        simp at h
        subst h
        cases r <;> cases l <;> rfl
      | succ k =>
        have := ih l k (putT o' tm x.1) o (by simpa using hl) (by simpa using h)
        show tmA r l (k + 1) (putT o' tm x.1) = _
        rw [this]
        have hv : vAt (x :: l) (k + 1) = vAt l k := by simp [vAt]
        rw [hv]
        rfl
noncomputable def gD (ops : List Oper) (D : Nat → Bool) (vals : Nat → Value) (tm : F Value) (t : Nat) : Value := match writer ops t with
  | some j => if D j then vals j else tm.get undef t
  | none => tm.get undef t
theorem tmA_get {E : FEnv} {ops : List Oper} {ord R : List Nat} {nt : Nat} (hs : Stat E ops ord R nt) {l : List (Value × AH)} (hl : l.length = ops.length) (tm : F Value) : ∀ (k : Nat), k ≤ ops.length → ∀ t, (tmA (permOps ops ord) l k tm).get undef t = gD ops (fun j => decide (rk R j < k)) (fun j => vAt l (rk R j)) tm t := by
  have hpl : (permOps ops ord).length = ops.length := by unfold permOps; rw [List.length_map, hs.ol]
  intro k
  induction k with
  | zero =>
    intro _ t
    have : tmA (permOps ops ord) l 0 tm = tm := by cases permOps ops ord <;> cases l <;> rfl
    rw [this]
    unfold gD
    cases writer ops t <;> simp
  | succ k ih =>
    intro hk t
    obtain ⟨i, hi, hoi, hrk⟩ := hs.o2 k (by omega)
    have ho : ops[i]? = some (ops[i]'hi) := List.getElem?_eq_getElem _
    have hp := perm_get hoi ho
    have key : ∀ j, (∃ o, ops[j]? = some o) → j ≠ i → (rk R j < k + 1 ↔ rk R j < k) := by
      intro j ⟨o, hj⟩ hne
      have : rk R j ≠ k := fun q => hne (hs.rk_inj (List.getElem?_eq_some_iff.1 hj).1 hi (by rw [q, hrk]))
      omega
    rw [tmA_succ (permOps ops ord) l k tm _ (by rw [hl, hpl]) hp]
    unfold putT
    cases hd : (ops[i]'hi).dst with
    | none =>
      simp only
      rw [ih (by omega) t]
      unfold gD
      cases hw : writer ops t with
      | none => rfl
      | some j =>
        obtain ⟨o, h1, h2⟩ := writer_some hw
        have : j ≠ i := fun q => by subst q; rw [ho] at h1; injection h1 with h1; rw [h1] at hd; rw [hd] at h2; cases h2
        simp only
        congr 1
        simp only [decide_eq_true_eq]
        exact propext (key j ⟨o, h1⟩ this).symm
    | some d =>
      simp only
      have hwd := hs.wr i _ d ho hd
      rw [F.get_set]
      by_cases e : t = d
      · subst e
        rw [if_pos rfl]
        unfold gD
        rw [hwd]
        simp [hrk]
      · rw [if_neg e, ih (by omega) t]
        unfold gD
        cases hw : writer ops t with
        | none => rfl
        | some j =>
          obtain ⟨o, h1, h2⟩ := writer_some hw
          have : j ≠ i := fun q => by
            subst q; rw [ho] at h1; injection h1 with h1; rw [← h1, hd] at h2; injection h2 with h2; exact e h2.symm
          simp only
          congr 1
          simp only [decide_eq_true_eq]
          exact propext (key j ⟨o, h1⟩ this).symm
/-! frames given by a function -/
noncomputable abbrev evG := evO
theorem evF_evG (tm : F Value) (g0 : Nat) : evF tm g0 = evG (tm.get undef) g0 := by
  funext x
  cases x <;> rfl
theorem evG_ok {γ : Nat → G} {base : Bs} {w0 w : World} {H : AH} (h : HRel γ base w0 H w) {g : Nat → Value} {a : Act} (ht : ∀ i, VRel γ H.next (g i) (a.tmps.getD i undef)) : EvRel γ H.next (evG g H.g0) a.eval := by
  intro x v hv
  cases x with
  | tmp t => injection hv with hv; subst hv; exact ht t
  | const u =>
    have : evF .lf H.g0 (.const u) = some v := hv
    unfold evF at this
    simp only at this
    split at this
    case h_2 => cases this
    rename_i hp
    injection this with this; subst this
    exact VRel.plain _ _ hp
  | global g =>
    have : evF .lf H.g0 (.global g) = some v := hv
    unfold evF at this
    simp only at this
    split at this
    case h_2 => cases this
    rename_i hg
    rw [blt_eq] at hg
    have hg' := of_decide_eq_true hg
    injection this with this; subst this
    have := VRel.ptr (γ := γ) (n := H.next) g 0 (Nat.lt_of_lt_of_le hg' h.g0)
    rw [(h.glob g hg').1, (h.glob g hg').2] at this
    exact this
  | func f =>
    have : some (Value.func (.func f) ⟨[]⟩ ⟨[]⟩) = some v := hv
    injection this with this; subst this
    exact .fn _ _ _ _ _ _ (.func f) rfl (fun i x y hx => by simp at hx) rfl (fun i x y hx => by simp at hx)
/-- Operands, some slots left out. -/
noncomputable def evP (ok : Nat → Bool) (g : Nat → Value) (g0 : Nat) : Ev
  | .tmp t => match ok t with
    | true => some (g t)
    | false => none
  | x => evF .lf g0 x
theorem evP_early {γ : Nat → G} {n : Nat} {ok : Nat → Bool} {g : Nat → Value} {a : Act} (ht : ∀ i, ok i = true → VRel γ n (g i) (a.tmps.getD i undef)) : EvRel γ n (evP ok g 0) a.eval := by
  intro x v hv
  cases x with
  | tmp t =>
    have hv' : (match ok t with | true => some (g t) | false => none) = some v := hv
    split at hv'
    · rename_i hk; injection hv' with hv'; subst hv'; exact ht t hk
    · cases hv'
  | const u =>
    have : evF .lf 0 (.const u) = some v := hv
    unfold evF at this
    simp only at this
    split at this
    case h_2 => cases this
    rename_i hp
    injection this with this; subst this
    exact VRel.plain _ _ hp
  | global g =>
    have : evF .lf 0 (.global g) = some v := hv
    unfold evF at this
    simp only at this
    split at this
    case h_2 => cases this
    rename_i hg
    rw [blt_eq] at hg
    have hg' := of_decide_eq_true hg
    omega
  | func f =>
    have : some (Value.func (.func f) ⟨[]⟩ ⟨[]⟩) = some v := hv
    injection this with this; subst this
    exact .fn _ _ _ _ _ _ (.func f) rfl (fun i x y hx => by simp at hx) rfl (fun i x y hx => by simp at hx)
theorem evP_ok {γ : Nat → G} {base : Bs} {w0 w : World} {H : AH} (h : HRel γ base w0 H w) {ok : Nat → Bool} {g : Nat → Value} {a : Act} (ht : ∀ i, ok i = true → VRel γ H.next (g i) (a.tmps.getD i undef)) : EvRel γ H.next (evP ok g H.g0) a.eval := by
  intro x v hv
  cases x with
  | global g =>
    have : evF .lf H.g0 (.global g) = some v := hv
    unfold evF at this
    simp only at this
    split at this
    case h_2 => cases this
    rename_i hg
    rw [blt_eq] at hg
    have hg' := of_decide_eq_true hg
    injection this with this; subst this
    have := VRel.ptr (γ := γ) (n := H.next) g 0 (Nat.lt_of_lt_of_le hg' h.g0)
    rw [(h.glob g hg').1, (h.glob g hg').2] at this
    exact this
  | tmp t => exact evP_early ht _ _ hv
  | const u => exact evP_early (ok := ok) (g := g) ht (.const u) _ hv
  | func f => exact evP_early (ok := ok) (g := g) ht (.func f) _ hv
noncomputable abbrev wantedG := wantedO
theorem wantedB_G (all : List Oper) (tm : F Value) (o : Oper) : wantedB all tm o = wantedG all (tm.get undef) o := rfl
theorem wantedG_congr {all : List Oper} {g g' : Nat → Value} {o : Oper} (h : ∀ t ∈ looks all o, g t = g' t) : wantedG all g o = wantedG all g' o := by
  unfold wantedG wantedO
  unfold looks at h
  cases hg : o.guard with
  | none => rfl
  | some jw =>
    obtain ⟨j, want⟩ := jw
    rw [hg] at h
    simp only at h ⊢
    cases hj : all[j]? with
    | none => rfl
    | some oj =>
      rw [hj] at h
      simp only at h ⊢
      cases hd : oj.dst with
      | none => rfl
      | some d =>
        rw [hd] at h
        simp only
        rw [h d (by simp)]
theorem tmpsOf_mem {t : Tmp} : ∀ {l : List Operand}, .tmp t ∈ l → t ∈ tmpsOf l
  | x :: l, h => by
    rcases List.mem_cons.1 h with q | q
    · subst q; simp [tmpsOf]
    · have := tmpsOf_mem q
      cases x <;> simp [tmpsOf, this]
theorem aop_congrG {E : FEnv} {all : List Oper} {g g' : Nat → Value} {g0 : Nat} {o : Oper} {H : AH} (h : ∀ t ∈ looks all o, g t = g' t) : aop E (evG g g0) o.op H = aop E (evG g' g0) o.op H := by
  refine aop_congr o.op (fun x hx => ?_)
  cases x with
  | tmp t =>
    have : t ∈ looks all o := by unfold looks; exact List.mem_append_right _ (tmpsOf_mem hx)
    show some (g t) = some (g' t)
    rw [h t this]
  | _ => rfl
theorem aop_congrP {E : FEnv} {all : List Oper} {ok : Nat → Bool} {g g' : Nat → Value} {g0 : Nat} {o : Oper} {H : AH} (h : ∀ t ∈ looks all o, ok t = true ∧ g t = g' t) : aop E (evP ok g g0) o.op H = aop E (evG g' g0) o.op H := by
  refine aop_congr o.op (fun x hx => ?_)
  cases x with
  | tmp t =>
    have : t ∈ looks all o := by unfold looks; exact List.mem_append_right _ (tmpsOf_mem hx)
    show (match ok t with | true => some (g t) | false => none) = some (g' t)
    rw [(h t this).1, (h t this).2]
  | _ => rfl
theorem noGlob_mem {g : Nat} : ∀ {l : List Operand}, noGlob l = true → .global g ∉ l
  | [], _, h => by cases h
  | x :: l, hn, h => by
    rcases List.mem_cons.1 h with q | q
    · subst q; cases hn
    · cases x with
      | global y => cases hn
      | _ => exact noGlob_mem (l := l) hn q
theorem aop_congrE {E : FEnv} {all : List Oper} {ok : Nat → Bool} {g g' : Nat → Value} {g0 : Nat} {o : Oper} {H : AH} (hn : noGlob (opsOf o.op) = true) (h : ∀ t ∈ looks all o, ok t = true ∧ g t = g' t) : aop E (evP ok g 0) o.op H = aop E (evG g' g0) o.op H := by
  refine aop_congr o.op (fun x hx => ?_)
  cases x with
  | tmp t =>
    have : t ∈ looks all o := by unfold looks; exact List.mem_append_right _ (tmpsOf_mem hx)
    show (match ok t with | true => some (g t) | false => none) = some (g' t)
    rw [(h t this).1, (h t this).2]
  | global y => exact absurd hx (noGlob_mem hn)
  | _ => rfl
theorem wantedG_ok {γ : Nat → G} {n : Nat} {ops : Array Oper} {g : Nat → Value} {ts : Array Value} (o : Oper) (ht : ∀ j want oj d, o.guard = some (j, want) → ops.toList[j]? = some oj → oj.dst = some d → VRel γ n (g d) (ts.getD d undef)) : Region.wanted o (yielded ops ts) = wantedG ops.toList g o := by
  unfold Region.wanted wantedG wantedO
  cases hg : o.guard with
  | none => rfl
  | some jw =>
    obtain ⟨j, want⟩ := jw
    simp only
    unfold yielded
    rw [← Array.getElem?_toList]
    cases hj : ops.toList[j]? with
    | none => rfl
    | some oj =>
      simp only [Option.bind_some]
      cases hd : oj.dst with
      | none => rfl
      | some d =>
        simp only [Option.bind_some]
        have hv := ht j want oj d hg hj hd
        have hgd : ts.getD d undef = (ts[d]?).getD undef := Array.getD_eq_getD_getElem? ..
        rw [hgd] at hv
        have be : ∀ a b : Bool, boolEq a b = (some a == some b) := by intro a b; cases a <;> cases b <;> rfl
        cases hts : ts[d]? with
        | none =>
          rw [hts] at hv
          simp only [Option.getD_none] at hv
          generalize g d = x at hv
          cases x <;> first | rfl | cases hv
        | some u =>
          rw [hts] at hv
          simp only [Option.getD_some] at hv
          generalize g d = x at hv
          cases hv <;> first | rfl | exact (be _ _).symm
section
variable {E : FEnv} {call : CallT}
theorem op_exec (hE : E.OK) (hc : CallOK E call) {γ : Nat → G} {base : Bs} {w0 w : World} {H H' : AH} {ev : Ev} {v : Value} {b : Frame} {a : Act} {k : List Item} {cs : List Frame} {ops : Array Oper} {i : Nat} {l : List Nat} {o : Oper} (ho : ops[i]? = some o) (hw : Region.wanted o (yielded ops a.tmps) = true)
    (hR : HRel γ base w0 H w) (hev : EvRel γ H.next ev a.eval) (hs : StepR E call ev H o v H') :
    ∃ γ' v' w', Ext γ H.next γ' H'.next ∧ HRel γ' base w0 H' w' ∧ VRel γ' H'.next v v' ∧ Steps E.P (lone (b.atR a (.inRegion ops (i :: l) :: k)) cs w) (lone (b.atR (a.put o.dst v') (.inRegion ops l :: k)) cs w') := by
  rcases hs with ha | ⟨ha, rfl⟩ | ⟨f, args, H1, ha, hcl⟩
  · obtain ⟨γ1, v', w1, h1, h2, h3, h4⟩ := aop_ok (w := w) hE hR hev ha
    exact ⟨γ1, v', w1, h1, h4, h3, .one (op_value ho hw (aop_semAt ha (fun _ _ _ q => by cases q) _ _) h2)⟩
  · obtain ⟨γ1, w1, h1, h2, h4⟩ := aop_ok (w := w) hE hR hev ha
    exact ⟨γ1, undef, w1, h1, h4, VRel.undef, .one (op_skipd ho hw (aop_semAt ha (fun _ _ _ q => by cases q) _ _) h2)⟩
  · have hA := aop_ok (w := w) hE hR hev ha
    have hH1 := enter_same hA
    subst hH1
    obtain ⟨M, γ1, w1, hi1, g1, g2, v', g5, g4⟩ := hc f args _ _ H' hcl γ base w0 w _ hR hA (b.atR a (.inRegion ops (i :: l) :: k)) cs
    rw [op_fin ho] at g4
    exact ⟨γ1, v', w1, g1, g2, g5, (Steps.one (op_into ho hw (aop_semAt ha (fun _ _ _ q => by cases q) _ _) hi1)).trans g4⟩
end
end Go.Proofs.YtohgenhjdgdkgaaGreatDoor.Sh
