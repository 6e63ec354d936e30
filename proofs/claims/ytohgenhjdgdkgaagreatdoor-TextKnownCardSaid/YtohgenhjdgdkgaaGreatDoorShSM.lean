import Derived.Test.YtohgenhjdgdkgaaGreatDoorShSL
namespace Go.Proofs.YtohgenhjdgdkgaaGreatDoor.Sh
open Go.RowKit
set_option linter.unusedVariables false
set_option linter.unusedSimpArgs false

/-! ### a closed call, from any memory -/
noncomputable def treeGo {α : Type} : List α → Nat → T (Option α) → T (Option α)
  | [], _, t => t
  | x :: l, i, t => treeGo l (i + 1) (t.set none i (some x))
theorem treeGo_get {α : Type} : ∀ (l : List α) (i : Nat) (t : T (Option α)) (j : Nat), (treeGo l i t).get none j = if i ≤ j ∧ j < i + l.length then l[j - i]? else t.get none j := by
  intro l
  induction l with
  | nil => intro i t j; rw [if_neg (by simp)]; rfl
  | cons v l ih =>
    intro i t j
    rw [treeGo, ih, T.get_set]
    by_cases h1 : i + 1 ≤ j ∧ j < i + 1 + l.length
    · rw [if_pos h1, if_pos (by simp; omega), show j - i = (j - (i + 1)) + 1 by omega]; simp
    · rw [if_neg h1]
      by_cases h2 : j = i
      · subst h2; rw [if_pos rfl, if_pos (by simp), Nat.sub_self]; rfl
      · rw [if_neg h2, if_neg (by simp; omega)]
noncomputable def treeOf {α : Type} (l : List α) : T (Option α) := treeGo l 0 .lf
theorem treeOf_get {α : Type} (l : List α) (j : Nat) : (treeOf l).get none j = l[j]? := by
  unfold treeOf
  rw [treeGo_get]
  by_cases h : j < l.length
  · rw [if_pos (by omega)]; rfl
  · rw [if_neg (by omega), T.get_lf, List.getElem?_eq_none (by omega)]
noncomputable def infOf (tt : T (Option TypeInfo)) (t : Nat) : Option TypeInfo := tt.get none t
noncomputable def undOf (tt : T (Option TypeInfo)) (t : Nat) : Option TypeDesc :=
  match tt.get none t with
  | some i => match i.desc with
    | .named _ u => match tt.get none u with
      | some j => some j.desc
      | none => none
    | d => some d
  | none => none
noncomputable def memN : List Nat → Nat → Bool
  | [], _ => false
  | x :: l, n => match Nat.beq x n with
    | true => true
    | false => memN l n
theorem memN_mem {l : List Nat} {n : Nat} (h : memN l n = true) : n ∈ l := by
  induction l with
  | nil => cases h
  | cons x l ih =>
    unfold memN at h
    split at h
    · rename_i hb; rw [Nat.eq_of_beq_eq_true hb]; simp
    · exact List.mem_cons_of_mem _ (ih h)
noncomputable def extOf : List (Nat × Xt) → Nat → Option Xt
  | [], _ => none
  | (i, k) :: l, n => match Nat.beq i n with
    | true => some k
    | false => extOf l n
theorem extOf_mem {l : List (Nat × Xt)} {n : Nat} {k : Xt} (h : extOf l n = some k) : (n, k) ∈ l := by
  induction l with
  | nil => cases h
  | cons x l ih =>
    obtain ⟨i, k'⟩ := x
    unfold extOf at h
    split at h
    · rename_i hb
      injection h with h
      rw [Nat.eq_of_beq_eq_true hb, h]; simp
    · exact List.mem_cons_of_mem _ (ih h)
noncomputable def insIn : List (Nat × Nat) → Nat → Option Nat
  | [], _ => none
  | (i, k) :: l, n => match Nat.beq i n with
    | true => some k
    | false => insIn l n
theorem insIn_mem {l : List (Nat × Nat)} {n k : Nat} (h : insIn l n = some k) : (n, k) ∈ l := by
  induction l with
  | nil => cases h
  | cons x l ih =>
    obtain ⟨i, k'⟩ := x
    unfold insIn at h
    split at h
    · rename_i hb
      injection h with h
      rw [Nat.eq_of_beq_eq_true hb, h]; simp
    · exact List.mem_cons_of_mem _ (ih h)
noncomputable def envOf (P : Program) (cmps : List Nat) (xs : List (Nat × Xt)) (is : List (Nat × Nat) := []) : FEnv := { ext := extOf xs, ins := insIn is, P := P, und := undOf (treeOf P.types.toList), inf := infOf (treeOf P.types.toList), cmp := memN cmps, fn := fun f => (treeOf P.funcs.toList).get none f }
noncomputable def cmpFine (P : Program) (t : TypeId) : Bool := !(P.stoodInHeld t) && !(P.eqGuardType P.depth t) && (match P.underlying t with
  | some (.struct fs) => fs.toList.all fun f => !(f.name == "_")
  | _ => true)
theorem envOf_ok {P : Program} {cmps : List Nat} {xs : List (Nat × Xt)} {is : List (Nat × Nat)} (hx : ∀ p ∈ xs, ∃ fn, P.funcs[p.1]? = some fn ∧ fn.body.isNone = true ∧ Extern.findNext fn = none ∧ Extern.find fn = some p.2.sem) (h1 : cmps.all (cmpFine P) = true) (h2 : P.funcs.toList.all (fun fn => !(fn.name == "runtime.NumGoroutine")) = true) (h3 : P.follows .mixedOrders = true) (hi : ∀ p ∈ is, InsOK (envOf P cmps xs is).toEnv p.1 p.2) : (envOf P cmps xs is).OK := by
  have hinf : ∀ t i, infOf (treeOf P.types.toList) t = some i → P.info? t = some i := by
    intro t i h
    unfold infOf at h
    rw [treeOf_get] at h
    have ht := (List.getElem?_eq_some_iff.1 h).1
    show Tables.info? P.toTables t = some i
    unfold Tables.info?
    rw [if_pos (by simpa using ht), ← Array.getElem?_toList]
    exact h
  refine ⟨⟨?_, hinf, ?_⟩, ?_, ?_, h3, fun f k h => hx _ (extOf_mem h), fun f t h => hi _ (insIn_mem h)⟩
  · intro t d h
    have h' : undOf (treeOf P.types.toList) t = some d := h
    unfold undOf at h'
    split at h'
    case h_2 => cases h'
    rename_i i hi
    have hi' := hinf t i hi
    show P.underlying t = some d
    unfold Program.underlying
    rw [hi']
    obtain ⟨desc, a1, a2, a3, a4, a5, a6, a7, a8, a9⟩ := i
    simp only at h'
    split at h'
    · rename_i nm u
      split at h'
      case h_2 => cases h'
      rename_i j hj
      injection h' with h'
      simp only
      rw [hinf u j hj, ← h']
      rfl
    · rename_i hne
      injection h' with h'
      subst h'
      cases desc <;> first | rfl | exact (hne _ _ rfl).elim
  · intro t h
    have := List.all_eq_true.1 h1 t (memN_mem h)
    unfold cmpFine at this
    rw [Bool.and_eq_true, Bool.and_eq_true] at this
    have q1 : P.stoodInHeld t = false := by simpa using this.1.1
    have q2 : P.eqGuardType P.depth t = false := by simpa using this.1.2
    refine ⟨q1, q2, fun fs hfs f hf => ?_⟩
    have h3 := this.2
    have hfs' : P.underlying t = some (.struct fs) := hfs
    rw [hfs'] at h3
    have := List.all_eq_true.1 h3 f hf
    simpa using this
  · intro f fn h
    have h' : (treeOf P.funcs.toList).get none f = some fn := h
    rw [treeOf_get, Array.getElem?_toList] at h'
    exact h'
  · intro f fn h
    have hm : fn ∈ P.funcs.toList := by
      have : P.funcs.toList[f]? = some fn := by rw [Array.getElem?_toList]; exact h
      exact List.mem_of_getElem? this
    have := List.all_eq_true.1 h2 fn hm
    simpa using this
noncomputable def H0 (g : Nat) : AH := { next := g, g0 := g, objs := .lf, live := .lf }
theorem H0_ok (g : Nat) (w : World) : HRel (fun b => ⟨b, 0, 0, 0, 0⟩) ⟨w.heap.size, []⟩ w (H0 g) w := by
  have hg : ∀ b, (H0 g).obj b = .gone := fun b => T.get_lf b
  refine ⟨Below.refl _ _, Nat.le_refl _, fun g _ => ⟨rfl, rfl⟩, fun b _ => by rw [hg]; trivial, fun b _ h => absurd (hg b) h, fun a b _ _ _ h => absurd (hg a) h, (fun b B _ h => by rw [hg] at h; cases h), Nat.le_refl _, fun p hp => by cases hp⟩
/-- What the run says: the function returns the bool. -/
noncomputable def saysB (o : Option TOut) (b : Bool) : Bool :=
  match o with
  | some (.fin (.ret (.bool c)) _ false) => boolEq c b
  | _ => false
theorem closed_call {E : FEnv} (hE : E.OK) (f n g : Nat) (h : saysB (ev E (drawnE E) n (.call f [] (H0 g) none)) true = true) (w : World) : Calls E.P f #[] w fun e w' => e = .returned (.bool true) ∧ Below w.heap.size w w' := by
  unfold saysB at h
  split at h
  case h_2 => cases h
  rename_i c H1 hq
  have hc : c = true := by cases c <;> first | rfl | cases h
  subst hc
  intro cs
  obtain ⟨γ', w', fr', cs', h1, h2, h3, h4, v', h5, h6, h7, h8, h9, h10, fn, h11, h12⟩ := ev_ok hE (drawn_ok hE) n _ _ hq (fun b => ⟨b, 0, 0, 0, 0⟩) ⟨w.heap.size, []⟩ w w [] .normal cs (H0_ok g w) .nil (Rc.normal _ _ _)
  have hcs : cs' = cs := by
    rcases h3 with ⟨_, q⟩ | ⟨_, q, _⟩
    · exact q
    · cases q
  subst hcs
  have hv := h5.bool_inv
  subst hv
  exact ⟨.returned (.bool true), w', fr', ⟨rfl, h2.below⟩, h4, h9, h6, h7, h8, fn, by rw [h9]; exact h11, h12⟩
end Go.Proofs.YtohgenhjdgdkgaaGreatDoor.Sh
