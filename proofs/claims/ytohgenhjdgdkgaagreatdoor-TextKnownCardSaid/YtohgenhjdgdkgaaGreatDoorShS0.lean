import Derived.Calls
import Derived.Below
import Derived.ProofKit
namespace Go.Proofs.YtohgenhjdgdkgaaGreatDoor.Sh
set_option linter.unusedVariables false
set_option linter.unusedSimpArgs false

/-! ### trees keyed by numbers: perfect binary trees of a given depth, the bits of the key from the top; laid for the kernel's run -/
structure Pr (α : Type) where
  fst : α
  snd : α
inductive Lf (α : Type) where
  | no
  | is (x : α)
/-- The bit that a mask takes out of a key. -/
noncomputable def side {β : Type} (m k : Nat) (a b : β) : β := Nat.rec (motive := fun _ => β) a (fun _ _ => b) (Nat.land k m)
theorem side_eq {β : Type} (n k : Nat) (a b : β) : side (2 ^ n) k a b = if k.testBit n then b else a := by
  unfold side
  have h : Nat.land k (2 ^ n) = if k.testBit n then 2 ^ n else 0 := by
    refine Nat.eq_of_testBit_eq fun i => ?_
    show (k &&& 2 ^ n).testBit i = _
    rw [Nat.testBit_and, Nat.testBit_two_pow]
    by_cases e : n = i
    · subst e
      cases k.testBit n <;> simp
    · simp only [e, decide_false, Bool.and_false]
      split <;> simp [e]
  rw [h]
  cases k.testBit n with
  | false => rfl
  | true =>
    have : 0 < 2 ^ n := Nat.two_pow_pos n
    obtain ⟨m, hm⟩ := Nat.exists_eq_succ_of_ne_zero (Nat.ne_of_gt this)
    simp only [if_true]
    rw [hm]
/-- Keys that agree in their low bits. -/
def agree : Nat → Nat → Nat → Prop
  | 0, _, _ => True
  | n + 1, j, k => j.testBit n = k.testBit n ∧ agree n j k
instance agreeDec : (n j k : Nat) → Decidable (agree n j k)
  | 0, _, _ => .isTrue trivial
  | n + 1, j, k => @instDecidableAnd _ _ _ (agreeDec n j k)
theorem agree_bit : ∀ (n j k : Nat), agree n j k → ∀ i, i < n → j.testBit i = k.testBit i := by
  intro n
  induction n with
  | zero => intro j k _ i hi; omega
  | succ n ih =>
    intro j k h i hi
    by_cases e : i = n
    · subst e; exact h.1
    · exact ih j k h.2 i (by omega)
theorem agree_refl : ∀ (n j : Nat), agree n j j := by
  intro n
  induction n with
  | zero => intro j; trivial
  | succ n ih => intro j; exact ⟨rfl, ih j⟩
theorem agree_iff {n j k : Nat} (hj : j < 2 ^ n) (hk : k < 2 ^ n) : agree n j k ↔ j = k := by
  refine ⟨fun h => Nat.eq_of_testBit_eq fun i => ?_, fun h => h ▸ agree_refl n j⟩
  by_cases hi : i < n
  · exact agree_bit n j k h i hi
  · have hp : 2 ^ n ≤ 2 ^ i := Nat.pow_le_pow_right (by omega) (by omega)
    rw [Nat.testBit_lt_two_pow (Nat.lt_of_lt_of_le hj hp), Nat.testBit_lt_two_pow (Nat.lt_of_lt_of_le hk hp)]
/-- What a pair of a reader and a writer keeps. -/
def Law {α X : Type} (n : Nat) (gd : X → Nat → Lf α) (sd : (β : Type) → X → Nat → α → (X → β) → β) : Prop :=
  ∀ (t : X) (k : Nat) (x : α), ∃ u, (∀ (β : Type) (c : X → β), sd β t k x c = c u) ∧ ∀ j, gd u j = if agree n j k then .is x else gd t j
abbrev P0 (α : Type) := Lf α
noncomputable def gd0 {α : Type} (t : P0 α) (_ : Nat) : Lf α := t
noncomputable def sd0 {α : Type} (β : Type) (_ : P0 α) (_ : Nat) (x : α) (c : P0 α → β) : β := c (Lf.is x)
theorem law0 {α : Type} : Law 0 (gd0 (α := α)) sd0 := fun t k x => ⟨Lf.is x, fun β c => rfl, fun j => by simp [gd0, agree]⟩
noncomputable def em0 {α : Type} : P0 α := Lf.no
theorem nil0 {α : Type} (j : Nat) : gd0 (α := α) em0 j = .no := rfl
/-- One level more. -/
theorem law_up {α X : Type} {n m : Nat} (hm : m = 2 ^ n) {gd : X → Nat → Lf α} {sd : (β : Type) → X → Nat → α → (X → β) → β} (h : Law n gd sd) :
    Law (n + 1) (fun (t : Pr X) k => Nat.rec (motive := fun _ => Lf α) (gd t.fst k) (fun _ _ => gd t.snd k) (Nat.land k m))
      (fun β (t : Pr X) k x c => Pr.rec (motive := fun _ => β) (fun a b => Nat.rec (motive := fun _ => β) (sd β a k x fun a => c (Pr.mk a b)) (fun _ _ => sd β b k x fun b => c (Pr.mk a b)) (Nat.land k m)) t) := by
  subst hm
  intro t k x
  obtain ⟨a, b⟩ := t
  obtain ⟨ua, ha, ha'⟩ := h a k x
  obtain ⟨ub, hb, hb'⟩ := h b k x
  refine ⟨if k.testBit n then ⟨a, ub⟩ else ⟨ua, b⟩, fun β c => ?_, fun j => ?_⟩
  · show side (2 ^ n) k (sd β a k x fun a => c (Pr.mk a b)) (sd β b k x fun b => c (Pr.mk a b)) = _
    rw [side_eq, ha, hb]
    cases k.testBit n <;> rfl
  · show side (2 ^ n) j (gd (Pr.fst (if k.testBit n then (⟨a, ub⟩ : Pr X) else ⟨ua, b⟩)) j) (gd (Pr.snd (if k.testBit n then (⟨a, ub⟩ : Pr X) else ⟨ua, b⟩)) j) = if (j.testBit n = k.testBit n ∧ agree n j k) then _ else side (2 ^ n) j (gd a j) (gd b j)
    rw [side_eq, side_eq]
    cases hk : k.testBit n <;> cases hj : j.testBit n <;> simp [ha', hb']
abbrev P1 (α : Type) := Pr (P0 α)
noncomputable def gd1 {α : Type} (t : P1 α) (k : Nat) : Lf α := Nat.rec (motive := fun _ => Lf α) (gd0 t.fst k) (fun _ _ => gd0 t.snd k) (Nat.land k 1)
noncomputable def sd1 {α : Type} (β : Type) (t : P1 α) (k : Nat) (x : α) (c : P1 α → β) : β := Pr.rec (motive := fun _ => β) (fun a b => Nat.rec (motive := fun _ => β) (sd0 β a k x fun a => c (Pr.mk a b)) (fun _ _ => sd0 β b k x fun b => c (Pr.mk a b)) (Nat.land k 1)) t
theorem law1 {α : Type} : Law 1 (gd1 (α := α)) sd1 := law_up (n := 0) (by decide) law0
noncomputable def em1 {α : Type} : P1 α := Pr.mk em0 em0
theorem nil1 {α : Type} (j : Nat) : gd1 (α := α) em1 j = .no := by
  show Nat.rec (motive := fun _ => Lf α) (gd0 em0 j) (fun _ _ => gd0 em0 j) (Nat.land j 1) = _
  rw [nil0]; cases Nat.land j 1 <;> rfl
abbrev P2 (α : Type) := Pr (P1 α)
noncomputable def gd2 {α : Type} (t : P2 α) (k : Nat) : Lf α := Nat.rec (motive := fun _ => Lf α) (gd1 t.fst k) (fun _ _ => gd1 t.snd k) (Nat.land k 2)
noncomputable def sd2 {α : Type} (β : Type) (t : P2 α) (k : Nat) (x : α) (c : P2 α → β) : β := Pr.rec (motive := fun _ => β) (fun a b => Nat.rec (motive := fun _ => β) (sd1 β a k x fun a => c (Pr.mk a b)) (fun _ _ => sd1 β b k x fun b => c (Pr.mk a b)) (Nat.land k 2)) t
theorem law2 {α : Type} : Law 2 (gd2 (α := α)) sd2 := law_up (n := 1) (by decide) law1
noncomputable def em2 {α : Type} : P2 α := Pr.mk em1 em1
theorem nil2 {α : Type} (j : Nat) : gd2 (α := α) em2 j = .no := by
  show Nat.rec (motive := fun _ => Lf α) (gd1 em1 j) (fun _ _ => gd1 em1 j) (Nat.land j 2) = _
  rw [nil1]; cases Nat.land j 2 <;> rfl
abbrev P3 (α : Type) := Pr (P2 α)
noncomputable def gd3 {α : Type} (t : P3 α) (k : Nat) : Lf α := Nat.rec (motive := fun _ => Lf α) (gd2 t.fst k) (fun _ _ => gd2 t.snd k) (Nat.land k 4)
noncomputable def sd3 {α : Type} (β : Type) (t : P3 α) (k : Nat) (x : α) (c : P3 α → β) : β := Pr.rec (motive := fun _ => β) (fun a b => Nat.rec (motive := fun _ => β) (sd2 β a k x fun a => c (Pr.mk a b)) (fun _ _ => sd2 β b k x fun b => c (Pr.mk a b)) (Nat.land k 4)) t
theorem law3 {α : Type} : Law 3 (gd3 (α := α)) sd3 := law_up (n := 2) (by decide) law2
noncomputable def em3 {α : Type} : P3 α := Pr.mk em2 em2
theorem nil3 {α : Type} (j : Nat) : gd3 (α := α) em3 j = .no := by
  show Nat.rec (motive := fun _ => Lf α) (gd2 em2 j) (fun _ _ => gd2 em2 j) (Nat.land j 4) = _
  rw [nil2]; cases Nat.land j 4 <;> rfl
abbrev P4 (α : Type) := Pr (P3 α)
noncomputable def gd4 {α : Type} (t : P4 α) (k : Nat) : Lf α := Nat.rec (motive := fun _ => Lf α) (gd3 t.fst k) (fun _ _ => gd3 t.snd k) (Nat.land k 8)
noncomputable def sd4 {α : Type} (β : Type) (t : P4 α) (k : Nat) (x : α) (c : P4 α → β) : β := Pr.rec (motive := fun _ => β) (fun a b => Nat.rec (motive := fun _ => β) (sd3 β a k x fun a => c (Pr.mk a b)) (fun _ _ => sd3 β b k x fun b => c (Pr.mk a b)) (Nat.land k 8)) t
theorem law4 {α : Type} : Law 4 (gd4 (α := α)) sd4 := law_up (n := 3) (by decide) law3
noncomputable def em4 {α : Type} : P4 α := Pr.mk em3 em3
theorem nil4 {α : Type} (j : Nat) : gd4 (α := α) em4 j = .no := by
  show Nat.rec (motive := fun _ => Lf α) (gd3 em3 j) (fun _ _ => gd3 em3 j) (Nat.land j 8) = _
  rw [nil3]; cases Nat.land j 8 <;> rfl
abbrev P5 (α : Type) := Pr (P4 α)
noncomputable def gd5 {α : Type} (t : P5 α) (k : Nat) : Lf α := Nat.rec (motive := fun _ => Lf α) (gd4 t.fst k) (fun _ _ => gd4 t.snd k) (Nat.land k 16)
noncomputable def sd5 {α : Type} (β : Type) (t : P5 α) (k : Nat) (x : α) (c : P5 α → β) : β := Pr.rec (motive := fun _ => β) (fun a b => Nat.rec (motive := fun _ => β) (sd4 β a k x fun a => c (Pr.mk a b)) (fun _ _ => sd4 β b k x fun b => c (Pr.mk a b)) (Nat.land k 16)) t
theorem law5 {α : Type} : Law 5 (gd5 (α := α)) sd5 := law_up (n := 4) (by decide) law4
noncomputable def em5 {α : Type} : P5 α := Pr.mk em4 em4
theorem nil5 {α : Type} (j : Nat) : gd5 (α := α) em5 j = .no := by
  show Nat.rec (motive := fun _ => Lf α) (gd4 em4 j) (fun _ _ => gd4 em4 j) (Nat.land j 16) = _
  rw [nil4]; cases Nat.land j 16 <;> rfl
abbrev P6 (α : Type) := Pr (P5 α)
noncomputable def gd6 {α : Type} (t : P6 α) (k : Nat) : Lf α := Nat.rec (motive := fun _ => Lf α) (gd5 t.fst k) (fun _ _ => gd5 t.snd k) (Nat.land k 32)
noncomputable def sd6 {α : Type} (β : Type) (t : P6 α) (k : Nat) (x : α) (c : P6 α → β) : β := Pr.rec (motive := fun _ => β) (fun a b => Nat.rec (motive := fun _ => β) (sd5 β a k x fun a => c (Pr.mk a b)) (fun _ _ => sd5 β b k x fun b => c (Pr.mk a b)) (Nat.land k 32)) t
theorem law6 {α : Type} : Law 6 (gd6 (α := α)) sd6 := law_up (n := 5) (by decide) law5
noncomputable def em6 {α : Type} : P6 α := Pr.mk em5 em5
theorem nil6 {α : Type} (j : Nat) : gd6 (α := α) em6 j = .no := by
  show Nat.rec (motive := fun _ => Lf α) (gd5 em5 j) (fun _ _ => gd5 em5 j) (Nat.land j 32) = _
  rw [nil5]; cases Nat.land j 32 <;> rfl
abbrev P7 (α : Type) := Pr (P6 α)
noncomputable def gd7 {α : Type} (t : P7 α) (k : Nat) : Lf α := Nat.rec (motive := fun _ => Lf α) (gd6 t.fst k) (fun _ _ => gd6 t.snd k) (Nat.land k 64)
noncomputable def sd7 {α : Type} (β : Type) (t : P7 α) (k : Nat) (x : α) (c : P7 α → β) : β := Pr.rec (motive := fun _ => β) (fun a b => Nat.rec (motive := fun _ => β) (sd6 β a k x fun a => c (Pr.mk a b)) (fun _ _ => sd6 β b k x fun b => c (Pr.mk a b)) (Nat.land k 64)) t
theorem law7 {α : Type} : Law 7 (gd7 (α := α)) sd7 := law_up (n := 6) (by decide) law6
noncomputable def em7 {α : Type} : P7 α := Pr.mk em6 em6
theorem nil7 {α : Type} (j : Nat) : gd7 (α := α) em7 j = .no := by
  show Nat.rec (motive := fun _ => Lf α) (gd6 em6 j) (fun _ _ => gd6 em6 j) (Nat.land j 64) = _
  rw [nil6]; cases Nat.land j 64 <;> rfl
abbrev P8 (α : Type) := Pr (P7 α)
noncomputable def gd8 {α : Type} (t : P8 α) (k : Nat) : Lf α := Nat.rec (motive := fun _ => Lf α) (gd7 t.fst k) (fun _ _ => gd7 t.snd k) (Nat.land k 128)
noncomputable def sd8 {α : Type} (β : Type) (t : P8 α) (k : Nat) (x : α) (c : P8 α → β) : β := Pr.rec (motive := fun _ => β) (fun a b => Nat.rec (motive := fun _ => β) (sd7 β a k x fun a => c (Pr.mk a b)) (fun _ _ => sd7 β b k x fun b => c (Pr.mk a b)) (Nat.land k 128)) t
theorem law8 {α : Type} : Law 8 (gd8 (α := α)) sd8 := law_up (n := 7) (by decide) law7
noncomputable def em8 {α : Type} : P8 α := Pr.mk em7 em7
theorem nil8 {α : Type} (j : Nat) : gd8 (α := α) em8 j = .no := by
  show Nat.rec (motive := fun _ => Lf α) (gd7 em7 j) (fun _ _ => gd7 em7 j) (Nat.land j 128) = _
  rw [nil7]; cases Nat.land j 128 <;> rfl
abbrev P9 (α : Type) := Pr (P8 α)
noncomputable def gd9 {α : Type} (t : P9 α) (k : Nat) : Lf α := Nat.rec (motive := fun _ => Lf α) (gd8 t.fst k) (fun _ _ => gd8 t.snd k) (Nat.land k 256)
noncomputable def sd9 {α : Type} (β : Type) (t : P9 α) (k : Nat) (x : α) (c : P9 α → β) : β := Pr.rec (motive := fun _ => β) (fun a b => Nat.rec (motive := fun _ => β) (sd8 β a k x fun a => c (Pr.mk a b)) (fun _ _ => sd8 β b k x fun b => c (Pr.mk a b)) (Nat.land k 256)) t
theorem law9 {α : Type} : Law 9 (gd9 (α := α)) sd9 := law_up (n := 8) (by decide) law8
noncomputable def em9 {α : Type} : P9 α := Pr.mk em8 em8
theorem nil9 {α : Type} (j : Nat) : gd9 (α := α) em9 j = .no := by
  show Nat.rec (motive := fun _ => Lf α) (gd8 em8 j) (fun _ _ => gd8 em8 j) (Nat.land j 256) = _
  rw [nil8]; cases Nat.land j 256 <;> rfl
abbrev P10 (α : Type) := Pr (P9 α)
noncomputable def gd10 {α : Type} (t : P10 α) (k : Nat) : Lf α := Nat.rec (motive := fun _ => Lf α) (gd9 t.fst k) (fun _ _ => gd9 t.snd k) (Nat.land k 512)
noncomputable def sd10 {α : Type} (β : Type) (t : P10 α) (k : Nat) (x : α) (c : P10 α → β) : β := Pr.rec (motive := fun _ => β) (fun a b => Nat.rec (motive := fun _ => β) (sd9 β a k x fun a => c (Pr.mk a b)) (fun _ _ => sd9 β b k x fun b => c (Pr.mk a b)) (Nat.land k 512)) t
theorem law10 {α : Type} : Law 10 (gd10 (α := α)) sd10 := law_up (n := 9) (by decide) law9
noncomputable def em10 {α : Type} : P10 α := Pr.mk em9 em9
theorem nil10 {α : Type} (j : Nat) : gd10 (α := α) em10 j = .no := by
  show Nat.rec (motive := fun _ => Lf α) (gd9 em9 j) (fun _ _ => gd9 em9 j) (Nat.land j 512) = _
  rw [nil9]; cases Nat.land j 512 <;> rfl
abbrev P11 (α : Type) := Pr (P10 α)
noncomputable def gd11 {α : Type} (t : P11 α) (k : Nat) : Lf α := Nat.rec (motive := fun _ => Lf α) (gd10 t.fst k) (fun _ _ => gd10 t.snd k) (Nat.land k 1024)
noncomputable def sd11 {α : Type} (β : Type) (t : P11 α) (k : Nat) (x : α) (c : P11 α → β) : β := Pr.rec (motive := fun _ => β) (fun a b => Nat.rec (motive := fun _ => β) (sd10 β a k x fun a => c (Pr.mk a b)) (fun _ _ => sd10 β b k x fun b => c (Pr.mk a b)) (Nat.land k 1024)) t
theorem law11 {α : Type} : Law 11 (gd11 (α := α)) sd11 := law_up (n := 10) (by decide) law10
noncomputable def em11 {α : Type} : P11 α := Pr.mk em10 em10
theorem nil11 {α : Type} (j : Nat) : gd11 (α := α) em11 j = .no := by
  show Nat.rec (motive := fun _ => Lf α) (gd10 em10 j) (fun _ _ => gd10 em10 j) (Nat.land j 1024) = _
  rw [nil10]; cases Nat.land j 1024 <;> rfl
abbrev P12 (α : Type) := Pr (P11 α)
noncomputable def gd12 {α : Type} (t : P12 α) (k : Nat) : Lf α := Nat.rec (motive := fun _ => Lf α) (gd11 t.fst k) (fun _ _ => gd11 t.snd k) (Nat.land k 2048)
noncomputable def sd12 {α : Type} (β : Type) (t : P12 α) (k : Nat) (x : α) (c : P12 α → β) : β := Pr.rec (motive := fun _ => β) (fun a b => Nat.rec (motive := fun _ => β) (sd11 β a k x fun a => c (Pr.mk a b)) (fun _ _ => sd11 β b k x fun b => c (Pr.mk a b)) (Nat.land k 2048)) t
theorem law12 {α : Type} : Law 12 (gd12 (α := α)) sd12 := law_up (n := 11) (by decide) law11
noncomputable def em12 {α : Type} : P12 α := Pr.mk em11 em11
theorem nil12 {α : Type} (j : Nat) : gd12 (α := α) em12 j = .no := by
  show Nat.rec (motive := fun _ => Lf α) (gd11 em11 j) (fun _ _ => gd11 em11 j) (Nat.land j 2048) = _
  rw [nil11]; cases Nat.land j 2048 <;> rfl
abbrev P13 (α : Type) := Pr (P12 α)
noncomputable def gd13 {α : Type} (t : P13 α) (k : Nat) : Lf α := Nat.rec (motive := fun _ => Lf α) (gd12 t.fst k) (fun _ _ => gd12 t.snd k) (Nat.land k 4096)
noncomputable def sd13 {α : Type} (β : Type) (t : P13 α) (k : Nat) (x : α) (c : P13 α → β) : β := Pr.rec (motive := fun _ => β) (fun a b => Nat.rec (motive := fun _ => β) (sd12 β a k x fun a => c (Pr.mk a b)) (fun _ _ => sd12 β b k x fun b => c (Pr.mk a b)) (Nat.land k 4096)) t
theorem law13 {α : Type} : Law 13 (gd13 (α := α)) sd13 := law_up (n := 12) (by decide) law12
noncomputable def em13 {α : Type} : P13 α := Pr.mk em12 em12
theorem nil13 {α : Type} (j : Nat) : gd13 (α := α) em13 j = .no := by
  show Nat.rec (motive := fun _ => Lf α) (gd12 em12 j) (fun _ _ => gd12 em12 j) (Nat.land j 4096) = _
  rw [nil12]; cases Nat.land j 4096 <;> rfl
abbrev P14 (α : Type) := Pr (P13 α)
noncomputable def gd14 {α : Type} (t : P14 α) (k : Nat) : Lf α := Nat.rec (motive := fun _ => Lf α) (gd13 t.fst k) (fun _ _ => gd13 t.snd k) (Nat.land k 8192)
noncomputable def sd14 {α : Type} (β : Type) (t : P14 α) (k : Nat) (x : α) (c : P14 α → β) : β := Pr.rec (motive := fun _ => β) (fun a b => Nat.rec (motive := fun _ => β) (sd13 β a k x fun a => c (Pr.mk a b)) (fun _ _ => sd13 β b k x fun b => c (Pr.mk a b)) (Nat.land k 8192)) t
theorem law14 {α : Type} : Law 14 (gd14 (α := α)) sd14 := law_up (n := 13) (by decide) law13
noncomputable def em14 {α : Type} : P14 α := Pr.mk em13 em13
theorem nil14 {α : Type} (j : Nat) : gd14 (α := α) em14 j = .no := by
  show Nat.rec (motive := fun _ => Lf α) (gd13 em13 j) (fun _ _ => gd13 em13 j) (Nat.land j 8192) = _
  rw [nil13]; cases Nat.land j 8192 <;> rfl
abbrev P15 (α : Type) := Pr (P14 α)
noncomputable def gd15 {α : Type} (t : P15 α) (k : Nat) : Lf α := Nat.rec (motive := fun _ => Lf α) (gd14 t.fst k) (fun _ _ => gd14 t.snd k) (Nat.land k 16384)
noncomputable def sd15 {α : Type} (β : Type) (t : P15 α) (k : Nat) (x : α) (c : P15 α → β) : β := Pr.rec (motive := fun _ => β) (fun a b => Nat.rec (motive := fun _ => β) (sd14 β a k x fun a => c (Pr.mk a b)) (fun _ _ => sd14 β b k x fun b => c (Pr.mk a b)) (Nat.land k 16384)) t
theorem law15 {α : Type} : Law 15 (gd15 (α := α)) sd15 := law_up (n := 14) (by decide) law14
noncomputable def em15 {α : Type} : P15 α := Pr.mk em14 em14
theorem nil15 {α : Type} (j : Nat) : gd15 (α := α) em15 j = .no := by
  show Nat.rec (motive := fun _ => Lf α) (gd14 em14 j) (fun _ _ => gd14 em14 j) (Nat.land j 16384) = _
  rw [nil14]; cases Nat.land j 16384 <;> rfl
abbrev P16 (α : Type) := Pr (P15 α)
noncomputable def gd16 {α : Type} (t : P16 α) (k : Nat) : Lf α := Nat.rec (motive := fun _ => Lf α) (gd15 t.fst k) (fun _ _ => gd15 t.snd k) (Nat.land k 32768)
noncomputable def sd16 {α : Type} (β : Type) (t : P16 α) (k : Nat) (x : α) (c : P16 α → β) : β := Pr.rec (motive := fun _ => β) (fun a b => Nat.rec (motive := fun _ => β) (sd15 β a k x fun a => c (Pr.mk a b)) (fun _ _ => sd15 β b k x fun b => c (Pr.mk a b)) (Nat.land k 32768)) t
theorem law16 {α : Type} : Law 16 (gd16 (α := α)) sd16 := law_up (n := 15) (by decide) law15
noncomputable def em16 {α : Type} : P16 α := Pr.mk em15 em15
theorem nil16 {α : Type} (j : Nat) : gd16 (α := α) em16 j = .no := by
  show Nat.rec (motive := fun _ => Lf α) (gd15 em15 j) (fun _ _ => gd15 em15 j) (Nat.land j 32768) = _
  rw [nil15]; cases Nat.land j 32768 <;> rfl
abbrev P17 (α : Type) := Pr (P16 α)
noncomputable def gd17 {α : Type} (t : P17 α) (k : Nat) : Lf α := Nat.rec (motive := fun _ => Lf α) (gd16 t.fst k) (fun _ _ => gd16 t.snd k) (Nat.land k 65536)
noncomputable def sd17 {α : Type} (β : Type) (t : P17 α) (k : Nat) (x : α) (c : P17 α → β) : β := Pr.rec (motive := fun _ => β) (fun a b => Nat.rec (motive := fun _ => β) (sd16 β a k x fun a => c (Pr.mk a b)) (fun _ _ => sd16 β b k x fun b => c (Pr.mk a b)) (Nat.land k 65536)) t
theorem law17 {α : Type} : Law 17 (gd17 (α := α)) sd17 := law_up (n := 16) (by decide) law16
noncomputable def em17 {α : Type} : P17 α := Pr.mk em16 em16
theorem nil17 {α : Type} (j : Nat) : gd17 (α := α) em17 j = .no := by
  show Nat.rec (motive := fun _ => Lf α) (gd16 em16 j) (fun _ _ => gd16 em16 j) (Nat.land j 65536) = _
  rw [nil16]; cases Nat.land j 65536 <;> rfl
structure T (α : Type) where
  mk ::
  low : P8 α
  high : P17 α
  rest : List (Nat × α)
noncomputable def T.lf {α : Type} : T α := T.mk em8 em17 []
noncomputable def Lf.or {α : Type} (d : α) (l : Lf α) : α := Lf.rec (motive := fun _ => α) d (fun x => x) l
def restGet {α : Type} (d : α) : List (Nat × α) → Nat → α
  | [], _ => d
  | (i, x) :: l, k => if i = k then x else restGet d l k
noncomputable def T.get {α : Type} (d : α) (t : T α) (k : Nat) : α :=
  Nat.rec (motive := fun _ => α) (Lf.or d (gd8 t.low k)) (fun _ _ => Nat.rec (motive := fun _ => α) (Lf.or d (gd17 t.high k)) (fun _ _ => restGet d t.rest k) (Nat.shiftRight k 17)) (Nat.shiftRight k 8)
noncomputable def T.set {α : Type} (_ : α) (t : T α) (k : Nat) (x : α) : T α :=
  T.rec (motive := fun _ => T α) (fun lo hi re => Nat.rec (motive := fun _ => T α) (sd8 (T α) lo k x fun lo => T.mk lo hi re) (fun _ _ => Nat.rec (motive := fun _ => T α) (sd17 (T α) hi k x fun hi => T.mk lo hi re) (fun _ _ => T.mk lo hi ((k, x) :: re)) (Nat.shiftRight k 17)) (Nat.shiftRight k 8)) t
section
variable {α : Type} {d : α}
theorem T.get_lf (k : Nat) : (T.lf : T α).get d k = d := by
  show Nat.rec (motive := fun _ => α) (Lf.or d (gd8 em8 k)) (fun _ _ => Nat.rec (motive := fun _ => α) (Lf.or d (gd17 em17 k)) (fun _ _ => restGet d [] k) (Nat.shiftRight k 17)) (Nat.shiftRight k 8) = d
  rw [nil8, nil17]
  cases Nat.shiftRight k 8 <;> cases Nat.shiftRight k 17 <;> rfl
theorem shift_rec {β : Type} (n k : Nat) (a b : β) : Nat.rec (motive := fun _ => β) a (fun _ _ => b) (Nat.shiftRight k n) = if k < 2 ^ n then a else b := by
  have h : Nat.shiftRight k n = k / 2 ^ n := Nat.shiftRight_eq_div_pow k n
  rw [h]
  have hp : 0 < 2 ^ n := Nat.two_pow_pos n
  by_cases hk : k < 2 ^ n
  · rw [if_pos hk, Nat.div_eq_of_lt hk]; rfl
  · rw [if_neg hk]
    have : 0 < k / 2 ^ n := Nat.div_pos (by omega) hp
    obtain ⟨m, hm⟩ := Nat.exists_eq_succ_of_ne_zero (Nat.ne_of_gt this)
    rw [hm]
theorem T.get_eq (t : T α) (k : Nat) : t.get d k = if k < 2 ^ 8 then Lf.or d (gd8 t.low k) else if k < 2 ^ 17 then Lf.or d (gd17 t.high k) else restGet d t.rest k := by
  unfold T.get
  rw [shift_rec, shift_rec]
theorem T.get_set (t : T α) (k : Nat) (x : α) (j : Nat) : (t.set d k x).get d j = if j = k then x else t.get d j := by
  obtain ⟨lo, hi, re⟩ := t
  obtain ⟨u8, h8, g8⟩ := law8 lo k x
  obtain ⟨u17, h17, g17⟩ := law17 hi k x
  have hs : T.set d ⟨lo, hi, re⟩ k x = if k < 2 ^ 8 then ⟨u8, hi, re⟩ else if k < 2 ^ 17 then ⟨lo, u17, re⟩ else ⟨lo, hi, (k, x) :: re⟩ := by
    show Nat.rec (motive := fun _ => T α) (sd8 (T α) lo k x fun lo => T.mk lo hi re) (fun _ _ => Nat.rec (motive := fun _ => T α) (sd17 (T α) hi k x fun hi => T.mk lo hi re) (fun _ _ => T.mk lo hi ((k, x) :: re)) (Nat.shiftRight k 17)) (Nat.shiftRight k 8) = _
    rw [shift_rec, shift_rec, h8, h17]
  rw [hs]
  by_cases k8 : k < 2 ^ 8
  · rw [if_pos k8, T.get_eq, T.get_eq]
    by_cases j8 : j < 2 ^ 8
    · rw [if_pos j8, if_pos j8]
      show Lf.or d (gd8 u8 j) = _
      rw [g8 j]
      by_cases e : j = k
      · rw [if_pos ((agree_iff j8 k8).2 e), if_pos e]; rfl
      · rw [if_neg (fun h => e ((agree_iff j8 k8).1 h)), if_neg e]
    · rw [if_neg j8, if_neg j8, if_neg (show j ≠ k by omega)]
  · rw [if_neg k8]
    by_cases kN : k < 2 ^ 17
    · rw [if_pos kN, T.get_eq, T.get_eq]
      by_cases j8 : j < 2 ^ 8
      · rw [if_pos j8, if_pos j8, if_neg (show j ≠ k by omega)]
      · rw [if_neg j8, if_neg j8]
        by_cases jN : j < 2 ^ 17
        · rw [if_pos jN, if_pos jN]
          show Lf.or d (gd17 u17 j) = _
          rw [g17 j]
          by_cases e : j = k
          · rw [if_pos ((agree_iff jN kN).2 e), if_pos e]; rfl
          · rw [if_neg (fun h => e ((agree_iff jN kN).1 h)), if_neg e]
        · rw [if_neg jN, if_neg jN, if_neg (show j ≠ k by omega)]
    · rw [if_neg kN, T.get_eq, T.get_eq]
      by_cases j8 : j < 2 ^ 8
      · rw [if_pos j8, if_pos j8, if_neg (show j ≠ k by omega)]
      · rw [if_neg j8, if_neg j8]
        by_cases jN : j < 2 ^ 17
        · rw [if_pos jN, if_pos jN, if_neg (show j ≠ k by omega)]
        · rw [if_neg jN, if_neg jN]
          show (if k = j then x else restGet d re j) = _
          by_cases e : j = k
          · rw [if_pos e, if_pos e.symm]
          · rw [if_neg e, if_neg (Ne.symm e)]
end
/-! ### frames: two levels of sixteen, the way to a slot worked out once for each slot -/
structure N16 (α : Type) where
  mk ::
  a0 : α
  a1 : α
  a2 : α
  a3 : α
  a4 : α
  a5 : α
  a6 : α
  a7 : α
  a8 : α
  a9 : α
  a10 : α
  a11 : α
  a12 : α
  a13 : α
  a14 : α
  a15 : α
structure Box (α : Type) where
  f : α
def N16.at {α : Type} (t : N16 α) : Nat → α
  | 0 => t.a0
  | 1 => t.a1
  | 2 => t.a2
  | 3 => t.a3
  | 4 => t.a4
  | 5 => t.a5
  | 6 => t.a6
  | 7 => t.a7
  | 8 => t.a8
  | 9 => t.a9
  | 10 => t.a10
  | 11 => t.a11
  | 12 => t.a12
  | 13 => t.a13
  | 14 => t.a14
  | _ => t.a15
def N16.put {α : Type} (t : N16 α) (x : α) : Nat → N16 α
  | 0 => { t with a0 := x }
  | 1 => { t with a1 := x }
  | 2 => { t with a2 := x }
  | 3 => { t with a3 := x }
  | 4 => { t with a4 := x }
  | 5 => { t with a5 := x }
  | 6 => { t with a6 := x }
  | 7 => { t with a7 := x }
  | 8 => { t with a8 := x }
  | 9 => { t with a9 := x }
  | 10 => { t with a10 := x }
  | 11 => { t with a11 := x }
  | 12 => { t with a12 := x }
  | 13 => { t with a13 := x }
  | 14 => { t with a14 := x }
  | _ => { t with a15 := x }
noncomputable def pk {α : Type} (d : Nat) : Box (N16 α → α) := (Nat.rec (motive := fun _ => Box (N16 α → α)) (Nat.rec (motive := fun _ => Box (N16 α → α)) (Nat.rec (motive := fun _ => Box (N16 α → α)) (Nat.rec (motive := fun _ => Box (N16 α → α)) ⟨fun t => t.a0⟩ (fun _ _ => ⟨fun t => t.a1⟩) (Nat.land d 1)) (fun _ _ => (Nat.rec (motive := fun _ => Box (N16 α → α)) ⟨fun t => t.a2⟩ (fun _ _ => ⟨fun t => t.a3⟩) (Nat.land d 1))) (Nat.land d 2)) (fun _ _ => (Nat.rec (motive := fun _ => Box (N16 α → α)) (Nat.rec (motive := fun _ => Box (N16 α → α)) ⟨fun t => t.a4⟩ (fun _ _ => ⟨fun t => t.a5⟩) (Nat.land d 1)) (fun _ _ => (Nat.rec (motive := fun _ => Box (N16 α → α)) ⟨fun t => t.a6⟩ (fun _ _ => ⟨fun t => t.a7⟩) (Nat.land d 1))) (Nat.land d 2))) (Nat.land d 4)) (fun _ _ => (Nat.rec (motive := fun _ => Box (N16 α → α)) (Nat.rec (motive := fun _ => Box (N16 α → α)) (Nat.rec (motive := fun _ => Box (N16 α → α)) ⟨fun t => t.a8⟩ (fun _ _ => ⟨fun t => t.a9⟩) (Nat.land d 1)) (fun _ _ => (Nat.rec (motive := fun _ => Box (N16 α → α)) ⟨fun t => t.a10⟩ (fun _ _ => ⟨fun t => t.a11⟩) (Nat.land d 1))) (Nat.land d 2)) (fun _ _ => (Nat.rec (motive := fun _ => Box (N16 α → α)) (Nat.rec (motive := fun _ => Box (N16 α → α)) ⟨fun t => t.a12⟩ (fun _ _ => ⟨fun t => t.a13⟩) (Nat.land d 1)) (fun _ _ => (Nat.rec (motive := fun _ => Box (N16 α → α)) ⟨fun t => t.a14⟩ (fun _ _ => ⟨fun t => t.a15⟩) (Nat.land d 1))) (Nat.land d 2))) (Nat.land d 4))) (Nat.land d 8))
noncomputable def md {α γ : Type} (d : Nat) : Box (N16 α → (α → (α → γ) → γ) → (N16 α → γ) → γ) := (Nat.rec (motive := fun _ => Box (N16 α → (α → (α → γ) → γ) → (N16 α → γ) → γ)) (Nat.rec (motive := fun _ => Box (N16 α → (α → (α → γ) → γ) → (N16 α → γ) → γ)) (Nat.rec (motive := fun _ => Box (N16 α → (α → (α → γ) → γ) → (N16 α → γ) → γ)) (Nat.rec (motive := fun _ => Box (N16 α → (α → (α → γ) → γ) → (N16 α → γ) → γ)) ⟨fun t g c => N16.rec (motive := fun _ => γ) (fun a0 a1 a2 a3 a4 a5 a6 a7 a8 a9 a10 a11 a12 a13 a14 a15 => g a0 fun x => c (N16.mk x a1 a2 a3 a4 a5 a6 a7 a8 a9 a10 a11 a12 a13 a14 a15)) t⟩ (fun _ _ => ⟨fun t g c => N16.rec (motive := fun _ => γ) (fun a0 a1 a2 a3 a4 a5 a6 a7 a8 a9 a10 a11 a12 a13 a14 a15 => g a1 fun x => c (N16.mk a0 x a2 a3 a4 a5 a6 a7 a8 a9 a10 a11 a12 a13 a14 a15)) t⟩) (Nat.land d 1)) (fun _ _ => (Nat.rec (motive := fun _ => Box (N16 α → (α → (α → γ) → γ) → (N16 α → γ) → γ)) ⟨fun t g c => N16.rec (motive := fun _ => γ) (fun a0 a1 a2 a3 a4 a5 a6 a7 a8 a9 a10 a11 a12 a13 a14 a15 => g a2 fun x => c (N16.mk a0 a1 x a3 a4 a5 a6 a7 a8 a9 a10 a11 a12 a13 a14 a15)) t⟩ (fun _ _ => ⟨fun t g c => N16.rec (motive := fun _ => γ) (fun a0 a1 a2 a3 a4 a5 a6 a7 a8 a9 a10 a11 a12 a13 a14 a15 => g a3 fun x => c (N16.mk a0 a1 a2 x a4 a5 a6 a7 a8 a9 a10 a11 a12 a13 a14 a15)) t⟩) (Nat.land d 1))) (Nat.land d 2)) (fun _ _ => (Nat.rec (motive := fun _ => Box (N16 α → (α → (α → γ) → γ) → (N16 α → γ) → γ)) (Nat.rec (motive := fun _ => Box (N16 α → (α → (α → γ) → γ) → (N16 α → γ) → γ)) ⟨fun t g c => N16.rec (motive := fun _ => γ) (fun a0 a1 a2 a3 a4 a5 a6 a7 a8 a9 a10 a11 a12 a13 a14 a15 => g a4 fun x => c (N16.mk a0 a1 a2 a3 x a5 a6 a7 a8 a9 a10 a11 a12 a13 a14 a15)) t⟩ (fun _ _ => ⟨fun t g c => N16.rec (motive := fun _ => γ) (fun a0 a1 a2 a3 a4 a5 a6 a7 a8 a9 a10 a11 a12 a13 a14 a15 => g a5 fun x => c (N16.mk a0 a1 a2 a3 a4 x a6 a7 a8 a9 a10 a11 a12 a13 a14 a15)) t⟩) (Nat.land d 1)) (fun _ _ => (Nat.rec (motive := fun _ => Box (N16 α → (α → (α → γ) → γ) → (N16 α → γ) → γ)) ⟨fun t g c => N16.rec (motive := fun _ => γ) (fun a0 a1 a2 a3 a4 a5 a6 a7 a8 a9 a10 a11 a12 a13 a14 a15 => g a6 fun x => c (N16.mk a0 a1 a2 a3 a4 a5 x a7 a8 a9 a10 a11 a12 a13 a14 a15)) t⟩ (fun _ _ => ⟨fun t g c => N16.rec (motive := fun _ => γ) (fun a0 a1 a2 a3 a4 a5 a6 a7 a8 a9 a10 a11 a12 a13 a14 a15 => g a7 fun x => c (N16.mk a0 a1 a2 a3 a4 a5 a6 x a8 a9 a10 a11 a12 a13 a14 a15)) t⟩) (Nat.land d 1))) (Nat.land d 2))) (Nat.land d 4)) (fun _ _ => (Nat.rec (motive := fun _ => Box (N16 α → (α → (α → γ) → γ) → (N16 α → γ) → γ)) (Nat.rec (motive := fun _ => Box (N16 α → (α → (α → γ) → γ) → (N16 α → γ) → γ)) (Nat.rec (motive := fun _ => Box (N16 α → (α → (α → γ) → γ) → (N16 α → γ) → γ)) ⟨fun t g c => N16.rec (motive := fun _ => γ) (fun a0 a1 a2 a3 a4 a5 a6 a7 a8 a9 a10 a11 a12 a13 a14 a15 => g a8 fun x => c (N16.mk a0 a1 a2 a3 a4 a5 a6 a7 x a9 a10 a11 a12 a13 a14 a15)) t⟩ (fun _ _ => ⟨fun t g c => N16.rec (motive := fun _ => γ) (fun a0 a1 a2 a3 a4 a5 a6 a7 a8 a9 a10 a11 a12 a13 a14 a15 => g a9 fun x => c (N16.mk a0 a1 a2 a3 a4 a5 a6 a7 a8 x a10 a11 a12 a13 a14 a15)) t⟩) (Nat.land d 1)) (fun _ _ => (Nat.rec (motive := fun _ => Box (N16 α → (α → (α → γ) → γ) → (N16 α → γ) → γ)) ⟨fun t g c => N16.rec (motive := fun _ => γ) (fun a0 a1 a2 a3 a4 a5 a6 a7 a8 a9 a10 a11 a12 a13 a14 a15 => g a10 fun x => c (N16.mk a0 a1 a2 a3 a4 a5 a6 a7 a8 a9 x a11 a12 a13 a14 a15)) t⟩ (fun _ _ => ⟨fun t g c => N16.rec (motive := fun _ => γ) (fun a0 a1 a2 a3 a4 a5 a6 a7 a8 a9 a10 a11 a12 a13 a14 a15 => g a11 fun x => c (N16.mk a0 a1 a2 a3 a4 a5 a6 a7 a8 a9 a10 x a12 a13 a14 a15)) t⟩) (Nat.land d 1))) (Nat.land d 2)) (fun _ _ => (Nat.rec (motive := fun _ => Box (N16 α → (α → (α → γ) → γ) → (N16 α → γ) → γ)) (Nat.rec (motive := fun _ => Box (N16 α → (α → (α → γ) → γ) → (N16 α → γ) → γ)) ⟨fun t g c => N16.rec (motive := fun _ => γ) (fun a0 a1 a2 a3 a4 a5 a6 a7 a8 a9 a10 a11 a12 a13 a14 a15 => g a12 fun x => c (N16.mk a0 a1 a2 a3 a4 a5 a6 a7 a8 a9 a10 a11 x a13 a14 a15)) t⟩ (fun _ _ => ⟨fun t g c => N16.rec (motive := fun _ => γ) (fun a0 a1 a2 a3 a4 a5 a6 a7 a8 a9 a10 a11 a12 a13 a14 a15 => g a13 fun x => c (N16.mk a0 a1 a2 a3 a4 a5 a6 a7 a8 a9 a10 a11 a12 x a14 a15)) t⟩) (Nat.land d 1)) (fun _ _ => (Nat.rec (motive := fun _ => Box (N16 α → (α → (α → γ) → γ) → (N16 α → γ) → γ)) ⟨fun t g c => N16.rec (motive := fun _ => γ) (fun a0 a1 a2 a3 a4 a5 a6 a7 a8 a9 a10 a11 a12 a13 a14 a15 => g a14 fun x => c (N16.mk a0 a1 a2 a3 a4 a5 a6 a7 a8 a9 a10 a11 a12 a13 x a15)) t⟩ (fun _ _ => ⟨fun t g c => N16.rec (motive := fun _ => γ) (fun a0 a1 a2 a3 a4 a5 a6 a7 a8 a9 a10 a11 a12 a13 a14 a15 => g a15 fun x => c (N16.mk a0 a1 a2 a3 a4 a5 a6 a7 a8 a9 a10 a11 a12 a13 a14 x)) t⟩) (Nat.land d 1))) (Nat.land d 2))) (Nat.land d 4))) (Nat.land d 8))
theorem all16 {P : Nat → Prop} (h0 : P 0) (h1 : P 1) (h2 : P 2) (h3 : P 3) (h4 : P 4) (h5 : P 5) (h6 : P 6) (h7 : P 7) (h8 : P 8) (h9 : P 9) (h10 : P 10) (h11 : P 11) (h12 : P 12) (h13 : P 13) (h14 : P 14) (h15 : P 15) : ∀ d, d < 16 → P d := by
  intro d hd
  match d, hd with
  | 0, _ => exact h0
  | 1, _ => exact h1
  | 2, _ => exact h2
  | 3, _ => exact h3
  | 4, _ => exact h4
  | 5, _ => exact h5
  | 6, _ => exact h6
  | 7, _ => exact h7
  | 8, _ => exact h8
  | 9, _ => exact h9
  | 10, _ => exact h10
  | 11, _ => exact h11
  | 12, _ => exact h12
  | 13, _ => exact h13
  | 14, _ => exact h14
  | 15, _ => exact h15
  | n + 16, h => exact absurd h (by omega)
theorem pk_eq {α : Type} (t : N16 α) : ∀ d, d < 16 → (pk d).f t = t.at d := by
  refine all16 ?_ ?_ ?_ ?_ ?_ ?_ ?_ ?_ ?_ ?_ ?_ ?_ ?_ ?_ ?_ ?_ <;> rfl
theorem md_eq {α γ : Type} (t : N16 α) (g : α → (α → γ) → γ) (c : N16 α → γ) : ∀ d, d < 16 → (md d).f t g c = g (t.at d) fun x => c (t.put x d) := by
  refine all16 ?_ ?_ ?_ ?_ ?_ ?_ ?_ ?_ ?_ ?_ ?_ ?_ ?_ ?_ ?_ ?_ <;> rfl
theorem N16.at_put_same {α : Type} (t : N16 α) (x : α) : ∀ i, i < 16 → (t.put x i).at i = x := by
  refine all16 ?_ ?_ ?_ ?_ ?_ ?_ ?_ ?_ ?_ ?_ ?_ ?_ ?_ ?_ ?_ ?_ <;> rfl
theorem N16.at_put_ne {α : Type} (t : N16 α) (x : α) : ∀ i, i < 16 → ∀ j, j < 16 → j ≠ i → (t.put x i).at j = t.at j := by
  refine all16 ?_ ?_ ?_ ?_ ?_ ?_ ?_ ?_ ?_ ?_ ?_ ?_ ?_ ?_ ?_ ?_ <;> refine all16 ?_ ?_ ?_ ?_ ?_ ?_ ?_ ?_ ?_ ?_ ?_ ?_ ?_ ?_ ?_ ?_ <;> first
    | (intro _; rfl)
    | (intro e; exact absurd rfl e)
theorem N16.at_put {α : Type} (t : N16 α) (x : α) (i j : Nat) (hi : i < 16) (hj : j < 16) : (t.put x i).at j = if j = i then x else t.at j := by
  by_cases e : j = i
  · subst e; rw [if_pos rfl]; exact N16.at_put_same t x j hj
  · rw [if_neg e]; exact N16.at_put_ne t x i hi j hj e
structure F (α : Type) where
  mk ::
  low : N16 (N16 (Lf α))
  rest : List (Nat × α)
noncomputable def F.e1 {α : Type} : N16 (Lf α) := N16.mk Lf.no Lf.no Lf.no Lf.no Lf.no Lf.no Lf.no Lf.no Lf.no Lf.no Lf.no Lf.no Lf.no Lf.no Lf.no Lf.no
noncomputable def F.lf {α : Type} : F α := F.mk (N16.mk F.e1 F.e1 F.e1 F.e1 F.e1 F.e1 F.e1 F.e1 F.e1 F.e1 F.e1 F.e1 F.e1 F.e1 F.e1 F.e1) []
noncomputable def fgB {α : Type} (k : Nat) : Box (α → F α → α) :=
  Nat.rec (motive := fun _ => Box (α → F α → α)) ⟨fun d t => Lf.or d ((pk (Nat.land k 15)).f ((pk (Nat.shiftRight k 4)).f t.low))⟩ (fun _ _ => ⟨fun d t => restGet d t.rest k⟩) (Nat.shiftRight k 8)
noncomputable def F.get {α : Type} (d : α) (t : F α) (k : Nat) : α := (fgB k).f d t
noncomputable def fsB {α : Type} (k : Nat) : Box (F α → α → F α) :=
  Nat.rec (motive := fun _ => Box (F α → α → F α)) ⟨fun t x => F.rec (motive := fun _ => F α) (fun lo re => (md (Nat.shiftRight k 4)).f lo (fun n c => (md (Nat.land k 15)).f n (fun _ c => c (Lf.is x)) c) fun lo => F.mk lo re) t⟩
    (fun _ _ => ⟨fun t x => F.rec (motive := fun _ => F α) (fun lo re => F.mk lo ((k, x) :: re)) t⟩) (Nat.shiftRight k 8)
noncomputable def F.set {α : Type} (_ : α) (t : F α) (k : Nat) (x : α) : F α := (fsB k).f t x
section
variable {α : Type} {d : α}
theorem box_shift {β : Type} (n k : Nat) (a b : Box β) : (Nat.rec (motive := fun _ => Box β) a (fun _ _ => b) (Nat.shiftRight k n)).f = if k < 2 ^ n then a.f else b.f := by
  rw [shift_rec]; split <;> rfl
theorem F.get_eq (t : F α) (k : Nat) : t.get d k = if k < 2 ^ 8 then Lf.or d ((t.low.at (k / 16)).at (k % 16)) else restGet d t.rest k := by
  have h1 : Nat.shiftRight k 4 = k / 16 := Nat.shiftRight_eq_div_pow k 4
  have h2 : Nat.land k 15 = k % 16 := Nat.and_two_pow_sub_one_eq_mod k 4
  unfold F.get fgB
  rw [box_shift, h1, h2]
  split
  · rename_i hk
    show Lf.or d ((pk (k % 16)).f ((pk (k / 16)).f t.low)) = _
    rw [pk_eq _ _ (by omega), pk_eq _ _ (by omega)]
  · rfl
theorem F.set_eq (t : F α) (k : Nat) (x : α) : t.set d k x = if k < 2 ^ 8 then F.mk (t.low.put ((t.low.at (k / 16)).put (Lf.is x) (k % 16)) (k / 16)) t.rest else F.mk t.low ((k, x) :: t.rest) := by
  have h1 : Nat.shiftRight k 4 = k / 16 := Nat.shiftRight_eq_div_pow k 4
  have h2 : Nat.land k 15 = k % 16 := Nat.and_two_pow_sub_one_eq_mod k 4
  unfold F.set fsB
  rw [box_shift, h1, h2]
  obtain ⟨lo, re⟩ := t
  split
  · rename_i hk
    show (md (k / 16)).f lo (fun n c => (md (k % 16)).f n (fun _ c => c (Lf.is x)) c) (fun lo => F.mk lo re) = _
    rw [md_eq _ _ _ _ (by omega), md_eq _ _ _ _ (by omega)]
  · rfl
theorem N16.at_all {α : Type} (x : α) : ∀ d, d < 16 → (N16.mk x x x x x x x x x x x x x x x x).at d = x := by
  refine all16 ?_ ?_ ?_ ?_ ?_ ?_ ?_ ?_ ?_ ?_ ?_ ?_ ?_ ?_ ?_ ?_ <;> rfl
theorem F.get_lf (k : Nat) : (F.lf : F α).get d k = d := by
  rw [F.get_eq]
  split
  · show Lf.or d (((N16.mk F.e1 F.e1 F.e1 F.e1 F.e1 F.e1 F.e1 F.e1 F.e1 F.e1 F.e1 F.e1 F.e1 F.e1 F.e1 F.e1 : N16 (N16 (Lf α))).at (k / 16)).at (k % 16)) = d
    rw [N16.at_all _ _ (by omega)]
    unfold F.e1
    rw [N16.at_all _ _ (by omega)]
    rfl
  · rfl
theorem F.get_set (t : F α) (k : Nat) (x : α) (j : Nat) : (t.set d k x).get d j = if j = k then x else t.get d j := by
  rw [F.set_eq]
  by_cases hk : k < 2 ^ 8
  · rw [if_pos hk, F.get_eq, F.get_eq]
    by_cases hj : j < 2 ^ 8
    · rw [if_pos hj, if_pos hj]
      show Lf.or d (((t.low.put ((t.low.at (k / 16)).put (Lf.is x) (k % 16)) (k / 16)).at (j / 16)).at (j % 16)) = _
      rw [N16.at_put _ _ _ _ (by omega) (by omega)]
      by_cases e : j / 16 = k / 16
      · rw [if_pos e, N16.at_put _ _ _ _ (by omega) (by omega)]
        by_cases e2 : j % 16 = k % 16
        · rw [if_pos e2, if_pos (by omega)]; rfl
        · rw [if_neg e2, if_neg (by omega), e]
      · rw [if_neg e, if_neg (by omega)]
    · rw [if_neg hj, if_neg hj, if_neg (by omega)]
  · rw [if_neg hk, F.get_eq, F.get_eq]
    by_cases hj : j < 2 ^ 8
    · rw [if_pos hj, if_pos hj, if_neg (by omega)]
    · rw [if_neg hj, if_neg hj]
      show (if k = j then x else restGet d t.rest j) = _
      by_cases e : j = k
      · rw [if_pos e, if_pos e.symm]
      · rw [if_neg e, if_neg (Ne.symm e)]
end
/-! ### values: an abstract block stands for a place in a block -/
structure G where
  blk : Nat
  off : Nat
  size : Nat
  lim : Nat
  esz : Nat
inductive FnRel (γ : Nat → G) (n : Nat) : Fn → Fn → Prop where
  | func (f : FuncId) : FnRel γ n (.func f) (.func f)
  | yield (l : Nat) : l < n → FnRel γ n (.yield l) (.yield (γ l).blk)
inductive VRel (γ : Nat → G) (n : Nat) : Value → Value → Prop where
  | bool (b : Bool) : VRel γ n (.bool b) (.bool b)
  | int (k : IntKind) (i : Int) : VRel γ n (.int k i) (.int k i)
  | float (k : FloatKind) (b : Nat) : VRel γ n (.float k b) (.float k b)
  | string (s : ByteArray) : VRel γ n (.string s) (.string s)
  | nilptr : VRel γ n (.pointer none) (.pointer none)
  | ptr (b o : Nat) : b < n → VRel γ n (.pointer (some ⟨b, o, none⟩)) (.pointer (some ⟨(γ b).blk, (γ b).off + o, none⟩))
  | nilslice : VRel γ n (.slice none 0 0) (.slice none 0 0)
  | slice (b o l c c' : Nat) : b < n → l ≤ c → o + c * (γ b).esz ≤ (γ b).size → (c' = c ∨ (o + c * (γ b).esz = (γ b).size ∧ c ≤ c' ∧ o + c' * (γ b).esz = (γ b).lim)) → VRel γ n (.slice (some ⟨b, o, none⟩) l c) (.slice (some ⟨(γ b).blk, (γ b).off + o, none⟩) l c')
  | nilmap : VRel γ n (.map none) (.map none)
  | map (b : Nat) : b < n → VRel γ n (.map (some b)) (.map (some (γ b).blk))
  | nilfn : VRel γ n .nilFunc .nilFunc
  | fn (f f' : Fn) (a b a' b' : List Value) : FnRel γ n f f' → a.length = a'.length → (∀ (i : Nat) (x y : Value), a[i]? = some x → a'[i]? = some y → VRel γ n x y) → b.length = b'.length → (∀ (i : Nat) (x y : Value), b[i]? = some x → b'[i]? = some y → VRel γ n x y) → VRel γ n (.func f ⟨a⟩ ⟨b⟩) (.func f' ⟨a'⟩ ⟨b'⟩)
  | nilif : VRel γ n .nilIface .nilIface
  | iface (t : TypeId) (v v' : Value) : VRel γ n v v' → VRel γ n (.iface t v) (.iface t v')
  | agg (a a' : List Value) : a.length = a'.length → (∀ (i : Nat) (x y : Value), a[i]? = some x → a'[i]? = some y → VRel γ n x y) → VRel γ n (.agg ⟨a⟩) (.agg ⟨a'⟩)
  | tup (a a' : List Value) : a.length = a'.length → (∀ (i : Nat) (x y : Value), a[i]? = some x → a'[i]? = some y → VRel γ n x y) → VRel γ n (.tuple ⟨a⟩) (.tuple ⟨a'⟩)
/-- Lists, one by one. -/
def LRel (γ : Nat → G) (n : Nat) (a a' : List Value) : Prop := a.length = a'.length ∧ ∀ (i : Nat) (x y : Value), a[i]? = some x → a'[i]? = some y → VRel γ n x y
/-- A later map of blocks. -/
def Ext (γ : Nat → G) (n : Nat) (γ' : Nat → G) (n' : Nat) : Prop := n ≤ n' ∧ ∀ b, b < n → γ' b = γ b
theorem Ext.refl (γ : Nat → G) (n : Nat) : Ext γ n γ n := ⟨Nat.le_refl _, fun _ _ => rfl⟩
theorem Ext.trans {γ γ' γ'' : Nat → G} {n n' n'' : Nat} (h : Ext γ n γ' n') (k : Ext γ' n' γ'' n'') : Ext γ n γ'' n'' :=
  ⟨Nat.le_trans h.1 k.1, fun b hb => (k.2 b (Nat.lt_of_lt_of_le hb h.1)).trans (h.2 b hb)⟩
section
variable {γ γ' : Nat → G} {n n' : Nat}
theorem FnRel.ext (e : Ext γ n γ' n') {f f' : Fn} (h : FnRel γ n f f') : FnRel γ' n' f f' := by
  cases h with
  | func f => exact .func f
  | yield l hl => rw [← e.2 l hl]; exact .yield l (Nat.lt_of_lt_of_le hl e.1)
theorem VRel.ext (e : Ext γ n γ' n') {v v' : Value} (h : VRel γ n v v') : VRel γ' n' v v' := by
  induction h with
  | bool b => exact .bool b
  | int k i => exact .int k i
  | float k b => exact .float k b
  | string s => exact .string s
  | nilptr => exact .nilptr
  | ptr b o hb => rw [← e.2 b hb]; exact .ptr b o (Nat.lt_of_lt_of_le hb e.1)
  | nilslice => exact .nilslice
  | slice b o l c c' hb h1 h2 h3 => rw [← e.2 b hb] at h2 h3 ⊢; exact .slice b o l c c' (Nat.lt_of_lt_of_le hb e.1) h1 h2 h3
  | nilmap => exact .nilmap
  | map b hb => rw [← e.2 b hb]; exact .map b (Nat.lt_of_lt_of_le hb e.1)
  | nilfn => exact .nilfn
  | fn f f' a b a' b' hf h1 _ h3 _ i1 i2 => exact .fn f f' a b a' b' (hf.ext e) h1 i1 h3 i2
  | nilif => exact .nilif
  | iface t v v' _ i => exact .iface t v v' i
  | agg a a' h1 _ i => exact .agg a a' h1 i
  | tup a a' h1 _ i => exact .tup a a' h1 i
theorem LRel.ext (e : Ext γ n γ' n') {a a' : List Value} (h : LRel γ n a a') : LRel γ' n' a a' := ⟨h.1, fun i x y hx hy => (h.2 i x y hx hy).ext e⟩
theorem LRel.nil : LRel γ n [] [] := ⟨rfl, fun i x y hx => by simp at hx⟩
theorem LRel.cons {x x' : Value} {a a' : List Value} (h : VRel γ n x x') (k : LRel γ n a a') : LRel γ n (x :: a) (x' :: a') := by
  refine ⟨by simp [k.1], fun i u v hu hv => ?_⟩
  cases i with
  | zero => simp at hu hv; subst hu hv; exact h
  | succ i => simp at hu hv; exact k.2 i u v hu hv
theorem LRel.get {a a' : List Value} (h : LRel γ n a a') {i : Nat} {x : Value} (hx : a[i]? = some x) : ∃ y, a'[i]? = some y ∧ VRel γ n x y := by
  have hi := (List.getElem?_eq_some_iff.1 hx).1
  have hy : a'[i]? = some (a'[i]'(by rw [← h.1]; exact hi)) := List.getElem?_eq_getElem _
  exact ⟨_, hy, h.2 i x _ hx hy⟩
theorem LRel.inv_cons {x : Value} {a b : List Value} (h : LRel γ n (x :: a) b) : ∃ x' a', b = x' :: a' ∧ VRel γ n x x' ∧ LRel γ n a a' := by
  match b, h with
  | [], h => simp [LRel] at h
  | x' :: a', h => exact ⟨x', a', rfl, h.2 0 _ _ rfl rfl, by simpa using h.1, fun i u v hu hv => h.2 (i + 1) u v (by simpa using hu) (by simpa using hv)⟩
theorem LRel.inv_nil {b : List Value} (h : LRel γ n [] b) : b = [] := List.eq_nil_of_length_eq_zero (by rw [← h.1]; rfl)
theorem LRel.append {a a' b b' : List Value} (h : LRel γ n a a') (k : LRel γ n b b') : LRel γ n (a ++ b) (a' ++ b') := by
  refine ⟨by simp [h.1, k.1], fun i x y hx hy => ?_⟩
  by_cases hi : i < a.length
  · rw [List.getElem?_append_left hi] at hx
    rw [List.getElem?_append_left (by rw [← h.1]; exact hi)] at hy
    exact h.2 i x y hx hy
  · rw [List.getElem?_append_right (by omega)] at hx
    rw [List.getElem?_append_right (by rw [← h.1]; omega), ← h.1] at hy
    exact k.2 _ x y hx hy
theorem LRel.drop {a a' : List Value} (h : LRel γ n a a') (m : Nat) : LRel γ n (a.drop m) (a'.drop m) := by
  refine ⟨by simp [h.1], fun i x y hx hy => h.2 (m + i) x y ?_ ?_⟩
  · simpa using hx
  · simpa using hy
theorem LRel.take {a a' : List Value} (h : LRel γ n a a') (m : Nat) : LRel γ n (a.take m) (a'.take m) := by
  refine ⟨by simp [h.1], fun i x y hx hy => h.2 i x y ?_ ?_⟩
  · rw [List.getElem?_take] at hx; split at hx <;> simp_all
  · rw [List.getElem?_take] at hy; split at hy <;> simp_all
theorem LRel.set {a a' : List Value} (h : LRel γ n a a') (m : Nat) {x x' : Value} (hx : VRel γ n x x') : LRel γ n (a.set m x) (a'.set m x') := by
  refine ⟨by simp [h.1], fun i u v hu hv => ?_⟩
  rw [List.getElem?_set] at hu hv
  by_cases e : m = i
  · subst e
    simp only [if_true] at hu hv
    have := h.1
    split at hu <;> split at hv
    · simp at hu hv; subst hu hv; exact hx
    · omega
    · omega
    · simp at hu
  · rw [if_neg e] at hu hv
    exact h.2 i u v hu hv
theorem VRel.mkAgg {a a' : List Value} (h : LRel γ n a a') : VRel γ n (.agg ⟨a⟩) (.agg ⟨a'⟩) := .agg a a' h.1 h.2
theorem VRel.mkTup {a a' : List Value} (h : LRel γ n a a') : VRel γ n (.tuple ⟨a⟩) (.tuple ⟨a'⟩) := .tup a a' h.1 h.2
theorem VRel.undef : VRel γ n Go.undef Go.undef := .tup [] [] rfl (fun i x y hx => by simp at hx)
theorem LRel.len {a a' : List Value} (h : LRel γ n a a') : a'.length = a.length := h.1.symm
/-- A value without addresses stands for itself. -/
def plainN : Nat → Value → Bool
  | 0, _ => false
  | k + 1, v => match v with
    | .bool _ | .int _ _ | .float _ _ | .string _ | .pointer none | .slice none 0 0 | .map none | .nilFunc | .nilIface => true
    | .func (.func _) ⟨a⟩ ⟨b⟩ => a.all (plainN k) && b.all (plainN k)
    | .iface _ v => plainN k v
    | .agg ⟨a⟩ | .tuple ⟨a⟩ => a.all (plainN k)
    | _ => false
theorem VRel.plain : ∀ (k : Nat) (v : Value), plainN k v = true → VRel γ n v v := by
  intro k
  induction k with
  | zero => intro v h; simp [plainN] at h
  | succ k ih =>
    have hl : ∀ a : List Value, a.all (plainN k) = true → ∀ (i : Nat) (x y : Value), a[i]? = some x → a[i]? = some y → VRel γ n x y := by
      intro a ha i x y hx hy
      rw [hx] at hy; injection hy with hy; subst hy
      exact ih x (List.all_eq_true.1 ha x (List.mem_of_getElem? hx))
    intro v h
    unfold plainN at h
    split at h
    · exact .bool _
    · exact .int _ _
    · exact .float _ _
    · exact .string _
    · exact .nilptr
    · exact .nilslice
    · exact .nilmap
    · exact .nilfn
    · exact .nilif
    · rw [Bool.and_eq_true] at h
      exact .fn _ _ _ _ _ _ (.func _) rfl (hl _ h.1) rfl (hl _ h.2)
    · exact .iface _ _ _ (ih _ h)
    · exact .agg _ _ rfl (hl _ h)
    · exact .tup _ _ rfl (hl _ h)
    · cases h
end
end Go.Proofs.YtohgenhjdgdkgaaGreatDoor.Sh
