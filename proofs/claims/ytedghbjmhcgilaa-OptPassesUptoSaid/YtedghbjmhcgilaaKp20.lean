import Derived.Test.YtedghbjmhcgilaaKp5
import Derived.Test.YtedghbjmhcgilaaKp6
import Derived.Test.YtedghbjmhcgilaaKp8
import Derived.Test.YtedghbjmhcgilaaKp10
import Derived.Test.YtedghbjmhcgilaaKp15
import Derived.Test.YtedghbjmhcgilaaKp19
set_option linter.unusedVariables false
set_option linter.unusedSimpArgs false
section
namespace Go.Proofs.Ytedghbjmhcgilaa.A
open Go.RowKit Go.Proofs.YtedghbjmhcgilaaW.PrintWords Go.Proofs.YtedghbjmhcgilaaW.PrintLast Go.Proofs.YtedghbjmhcgilaaW.PrintMore
open Go.Proofs.Ytedghbjmhcgilaa.POpt
theorem rising_of {l : List S37} (h : ∀ i, 0 < i → i < l.length → (at2 l (i - 1)).f0 < (at2 l i).f0) : Rising l := by
  unfold Rising
  rw [List.pairwise_iff_getElem]
  intro i j hi hj hij
  induction j with
  | zero => omega
  | succ j ih =>
    have h1 := h (j + 1) (by omega) hj
    rw [at2_lt hj, show j + 1 - 1 = j by omega, at2_lt (show j < l.length by omega)] at h1
    by_cases e : i = j
    · subst e; exact h1
    · have := ih (by omega) (by omega); omega
theorem rising_l0 {l : List S37} (hl : l.length ≤ 1048576) (p : Nat) : ∀ (i : Nat), 0 < i → i + p = l.length + 1 → ∃ k r, rgrising.l0 k l (i : Int) = some r ∧ (r = true → ∀ j, i ≤ j → j < l.length → (at2 l (j - 1)).f0 < (at2 l j).f0) := by
  induction p with
  | zero =>
    intro i h0 hp
    refine ⟨1, true, ?_, fun _ j h1 h2 => by omega⟩
    rw [rgrising.l0, if_neg (by omega)]
  | succ p ih =>
    intro i h0 hp
    by_cases hi : i < l.length
    · obtain ⟨k, r, hk, hr⟩ := ih (i + 1) (by omega) (by omega)
      have e1 : wrap64 ((i : Int) - 1) = ((i - 1 : Nat) : Int) := by rw [w64i (by omega)]; omega
      have e2 : wrap64 ((i : Int) + 1) = ((i + 1 : Nat) : Int) := by rw [w64i (by omega)]; omega
      have open_ : ∀ k, rgrising.l0 (k + 1) l (i : Int) = if (at2 l (i - 1)).f0 ≥ (at2 l i).f0 then some false else rgrising.l0 k l ((i + 1 : Nat) : Int) := by
        intro k
        rw [rgrising.l0, if_pos (by omega), e1, if_pos (by omega), if_pos (by omega), if_pos (by omega), rd37, rd37, e2]
      by_cases hc : (at2 l (i - 1)).f0 ≥ (at2 l i).f0
      · exact ⟨1, false, by rw [open_, if_pos hc], fun h => by cases h⟩
      · refine ⟨k + 1, r, by rw [open_, if_neg hc]; exact hk, fun h j h1 h2 => ?_⟩
        by_cases e : j = i
        · subst e; omega
        · exact hr h j (by omega) h2
    · refine ⟨1, true, ?_, fun _ j h1 h2 => by omega⟩
      rw [rgrising.l0, if_neg (by omega)]
theorem rising_total {l : List S37} (hl : l.length ≤ 1048576) : ∃ k r, rgrising.f k l = some r ∧ (r = true → Rising l) := by
  obtain ⟨k, r, hk, hr⟩ := rising_l0 hl l.length 1 (by omega) (by omega)
  exact ⟨k, r, hk, fun h => rising_of (fun i h0 h1 => hr h i (by omega) h1)⟩
def okE (bs : List S30) (n i : Nat) (x : S35) : Bool :=
  (decide (16 ≤ x.f0) && (decide (x.f0 ≤ 25) && (!(x.f0 == 24 && decide (i + 1 < n)) && numS bs x))) && !(x.f0 == 16 && (decide (x.f2 ≤ i) || decide (x.f2 ≥ n)))
section
variable (bs : List S30) (l e : List S35) (r : List S37)
theorem enc_step {k : Nat} {i : Nat} (hi : i < e.length) (hl : e.length ≤ 1048576) : rgenc.l0 (k + 2) (e.length : Int) (i : Int) bs l e r = if okE bs e.length i (at5 e i) = true then rgenc.l0 k (e.length : Int) ((i + 1 : Nat) : Int) bs l e r else some false := by
  have e2 : wrap64 ((i : Int) + 1) = ((i + 1 : Nat) : Int) := by rw [w64i (by omega)]; omega
  have e3 : wrap64 ((e.length : Int) - 1) = ((e.length - 1 : Nat) : Int) := by rw [w64i (by omega)]; omega
  rw [rgenc.l0, if_pos (by omega), if_pos (by omega), if_pos (by omega), rd35, e3]
  simp only [rgnumbers.f, Option.bind_some]
  generalize at5 e i = x
  have hnum : N.numB bs x.f0 x.f1 x.f2 x.f3 x.f4 = numS bs x := rfl
  rw [hnum]
  have j2 : ∀ b : Bool, rgenc.j2 (k + 1) (e.length : Int) (i : Int) b bs l e r x.f0 x.f1 x.f2 x.f3 x.f4 = if b = true then some false else if (!(x.f0 == 16 && (decide (x.f2 ≤ i) || decide (x.f2 ≥ e.length)))) = true then rgenc.l0 k (e.length : Int) ((i + 1 : Nat) : Int) bs l e r else some false := by
    intro b
    rw [rgenc.j2, e2]
    by_cases h4 : x.f0 = 16
    · by_cases a1 : x.f2 ≤ i
      · simp [h4, a1]
      · by_cases a2 : x.f2 ≥ e.length
        · simp [h4, a1, a2]
        · simp [h4, a1, a2]
    · simp [h4]
  simp only [j2]
  unfold okE
  generalize (!(x.f0 == 16 && (decide (x.f2 ≤ i) || decide (x.f2 ≥ e.length)))) = T
  by_cases a1 : x.f0 < 16
  · have : ¬ 16 ≤ x.f0 := by omega
    simp [a1, this]
  · have b1 : 16 ≤ x.f0 := by omega
    by_cases a2 : x.f0 > 25
    · have : ¬ x.f0 ≤ 25 := by omega
      simp [a1, a2, this]
    · have b2 : x.f0 ≤ 25 := by omega
      by_cases a3 : x.f0 = 24
      · by_cases a4 : i + 1 < e.length
        · have : (i : Int) < ((e.length - 1 : Nat) : Int) := by omega
          simp [a3, a4, this]
        · have : ¬ (i : Int) < ((e.length - 1 : Nat) : Int) := by omega
          cases numS bs x <;> simp [a3, a4, this]
      · cases numS bs x <;> simp [a1, a2, a3, b1, b2]
theorem enc_go (hl : e.length ≤ 1048576) (p : Nat) : ∀ (i : Nat), i + p = e.length → ∃ k b, rgenc.l0 k (e.length : Int) (i : Int) bs l e r = some b ∧ (b = true → ∀ j, i ≤ j → j < e.length → okE bs e.length j (at5 e j) = true) := by
  induction p with
  | zero =>
    intro i hp
    refine ⟨1, true, ?_, fun _ j h1 h2 => by omega⟩
    rw [rgenc.l0, if_neg (by omega)]
  | succ p ih =>
    intro i hp
    have hi : i < e.length := by omega
    by_cases hok : okE bs e.length i (at5 e i) = true
    · obtain ⟨k, b, hk, hb⟩ := ih (i + 1) (by omega)
      refine ⟨k + 2, b, by rw [enc_step bs l e r hi hl, if_pos hok]; exact hk, fun h j h1 h2 => ?_⟩
      by_cases ej : j = i
      · subst ej; exact hok
      · exact hb h j (by omega) h2
    · exact ⟨0 + 2, false, by rw [enc_step bs l e r hi hl, if_neg hok], fun h => by cases h⟩
structure EncOK (bs : List S30) (e : List S35) : Prop where
  good : GoodE e
  num : ∀ x ∈ e, numS bs x = true
theorem enc_total (hl : e.length ≤ 1048576) : ∃ k b, rgenc.f k bs l e r = some b ∧ (b = true → EncOK bs e) := by
  unfold rgenc.f
  by_cases h0 : (e.length : Int) = 0
  · refine ⟨1, false, ?_, fun h => by cases h⟩
    rw [if_pos h0, rgenc.j0, if_pos rfl]
  · simp only [if_neg h0]
    have e1 : wrap64 ((e.length : Int) - 1) = ((e.length - 1 : Nat) : Int) := by rw [w64i (by omega)]; omega
    rw [e1, rd35]
    have c1 : (0 : Int) ≤ ((e.length - 1 : Nat) : Int) := by omega
    have c2 : ((e.length - 1 : Nat) : Int) < (e.length : Int) := by omega
    simp only [if_pos c1, if_pos c2]
    by_cases hlast : (at5 e (e.length - 1)).f0 = 24
    · obtain ⟨k, b, hk, hb⟩ := enc_go bs l e r hl e.length 0 (by omega)
      refine ⟨k + 1, b, ?_, fun h => ?_⟩
      · rw [rgenc.j0, if_neg (by simp [hlast])]; exact hk
      · have F : ∀ i, i < e.length → (16 ≤ (at5 e i).f0 ∧ (at5 e i).f0 ≤ 25) ∧ ((at5 e i).f0 = 24 → i = e.length - 1) ∧ numS bs (at5 e i) = true ∧ ((at5 e i).f0 = 16 → (i : Int) < (at5 e i).f2 ∧ (at5 e i).f2 < e.length) := by
          intro i hi
          have h1 := hb h i (by omega) hi
          unfold okE at h1
          simp only [Bool.and_eq_true, decide_eq_true_eq, Bool.not_eq_true', Bool.and_eq_false_iff, Bool.or_eq_false_iff, decide_eq_false_iff_not, beq_eq_false_iff_ne] at h1
          obtain ⟨⟨q1, q2, q3, q4⟩, q5⟩ := h1
          refine ⟨⟨q1, q2⟩, fun ee => ?_, q4, fun ee => ?_⟩
          · rcases q3 with q | q
            · exact absurd ee q
            · omega
          · rcases q5 with q | q
            · exact absurd ee q
            · omega
        refine ⟨⟨by omega, fun i hi => (F i hi).1, fun i hi => ⟨(F i hi).2.1, fun ee => by subst ee; exact hlast⟩, fun i hi => (F i hi).2.2.2⟩, fun x hx => ?_⟩
        obtain ⟨i, hi, rfl⟩ := List.mem_iff_getElem.1 hx
        have := (F i hi).2.2.1
        rwa [at5_lt hi] at this
    · exact ⟨1, false, by rw [rgenc.j0, if_pos (by simp [hlast])], fun h => by cases h⟩
end
theorem up {α : Type} {f : Nat → Option α} (h : ∀ k, LeO (f k) (f (k + 1))) {k m : Nat} {r : α} (hk : f k = some r) (hle : k ≤ m) : f m = some r := by
  induction m with
  | zero => have : k = 0 := by omega
            subst this; exact hk
  | succ m ih =>
    by_cases e : k = m + 1
    · subst e; exact hk
    · exact h m r (ih (by omega))
structure OKBlock (bs : List S30) (b : S30) : Prop where
  rise : Rising b.f2
  or : ((0 < b.f0.length ∨ 0 < b.f1.length) ∧ DecOK bs b.f0 b.f2 ∧ EncOK bs b.f1) ∨ (b.f0.length = 0 ∧ b.f1.length = 0 ∧ 1 ≤ b.f2.length ∧ b.f2.length ≤ 128 ∧ ∀ y ∈ b.f2, 0 ≤ y.f0 ∧ y.f0 < 2147483648 ∧ y.f1 = 0)
section
variable (bs : List S30)
theorem valid_up {k m : Nat} {i : Int} {r : Bool} (h : rgValid.l0 k i bs = some r) (hle : k ≤ m) : rgValid.l0 m i bs = some r := up (f := fun k => rgValid.l0 k i bs) (fun k => (rgValid.mono_l k).1 i bs) h hle
theorem valid_rows {l e : List S35} {r : List S37} {i : Nat} (hr : r.length ≤ 1048576) (hib : i < 1048576) (K : Nat) (R : Bool) (hK : rgValid.l0 K ((i + 1 : Nat) : Int) bs = some R) (p : Nat) : ∀ (j : Nat), j + p = r.length → ∃ k b, rgValid.l1 k (i : Int) (j : Int) bs l e r = some b ∧ (b = true → R = true ∧ ∀ q, j ≤ q → q < r.length → 0 ≤ (at2 r q).f0 ∧ (at2 r q).f0 < 2147483648 ∧ (at2 r q).f1 = 0) := by
  induction p with
  | zero =>
    intro j hj
    refine ⟨K + 1, R, ?_, fun h => ⟨h, fun q h1 h2 => by omega⟩⟩
    rw [rgValid.l1, if_neg (by omega), show wrap64 ((i : Int) + 1) = ((i + 1 : Nat) : Int) by rw [w64i (by omega)]; omega]
    exact hK
  | succ p ih =>
    intro j hj
    obtain ⟨k, b, hk, hb⟩ := ih (j + 1) (by omega)
    have e2 : wrap64 ((j : Int) + 1) = ((j + 1 : Nat) : Int) := by rw [w64i (by omega)]; omega
    have open_ : ∀ k, rgValid.l1 (k + 1) (i : Int) (j : Int) bs l e r = if (at2 r j).f0 < 0 then some false else if (at2 r j).f0 ≥ 2147483648 then some false else if (at2 r j).f1 = 0 then rgValid.l1 k (i : Int) ((j + 1 : Nat) : Int) bs l e r else some false := by
      intro k
      rw [rgValid.l1, if_pos (by omega), if_pos (by omega), rd37, e2]
    by_cases h1 : (at2 r j).f0 < 0
    · exact ⟨1, false, by rw [open_, if_pos h1], fun h => by cases h⟩
    by_cases h2 : (at2 r j).f0 ≥ 2147483648
    · exact ⟨1, false, by rw [open_, if_neg h1, if_pos h2], fun h => by cases h⟩
    by_cases h3 : (at2 r j).f1 = 0
    · refine ⟨k + 1, b, by rw [open_, if_neg h1, if_neg h2, if_pos h3]; exact hk, fun h => ⟨(hb h).1, fun q g1 g2 => ?_⟩⟩
      by_cases eq : q = j
      · subst eq; exact ⟨by omega, by omega, h3⟩
      · exact (hb h).2 q (by omega) g2
    · exact ⟨1, false, by rw [open_, if_neg h1, if_neg h2, if_neg h3], fun h => by cases h⟩
theorem message_iff {i : Nat} (hi : i < bs.length) : N.isMessageB bs (i : Int) = true ↔ (0 < (bs[i]).f0.length ∨ 0 < (bs[i]).f1.length) := by
  have e : rdP bs (i : Int) = bs[i] := by simp [rdP, hi]
  have h := N.isMessageB_f bs (i : Int)
  unfold rgisMessage.f at h
  rw [if_pos (by omega), if_pos (by omega), if_pos (by omega), e] at h
  by_cases h0 : ((bs[i]).f0.length : Int) > 0
  · rw [if_pos h0] at h
    injection h with h
    rw [← h]
    simp
    left; omega
  · rw [if_neg h0] at h
    injection h with h
    rw [← h]
    simp
    omega
theorem valid_go (hlen : bs.length ≤ 1048576) (hs : ∀ b ∈ bs, b.f0.length ≤ 1048576 ∧ b.f1.length ≤ 1048576 ∧ b.f2.length ≤ 1048576) (p : Nat) : ∀ i, i + p = bs.length → ∃ k r, rgValid.l0 k (i : Int) bs = some r ∧ (r = true → ∀ j, (hj : j < bs.length) → i ≤ j → OKBlock bs (bs[j])) := by
  induction p with
  | zero =>
    intro i hp
    refine ⟨1, true, ?_, fun _ j hj h1 => by omega⟩
    rw [rgValid.l0, if_neg (by omega)]
  | succ p ih =>
    intro i hp
    have hi : i < bs.length := by omega
    obtain ⟨K, R, hK, hR⟩ := ih (i + 1) (by omega)
    have e2 : wrap64 ((i : Int) + 1) = ((i + 1 : Nat) : Int) := by rw [w64i (by omega)]; omega
    have e : rdP bs (i : Int) = bs[i] := by simp [rdP, hi]
    obtain ⟨s0, s1, s2⟩ := hs _ (List.getElem_mem hi)
    have hmsg := message_iff bs hi
    generalize hb : bs[i] = b at *
    obtain ⟨k1, r1, hk1, hr1⟩ := rising_total s2
    obtain ⟨k3, r3, hk3, hr3⟩ := enc_total bs b.f0 b.f1 b.f2 s1
    have hd : rgdec.f bs b.f0 b.f1 b.f2 = some (decB bs b.f0 b.f2) := by unfold rgdec.f; rw [if_pos (by omega), if_pos (by omega)]
    have next : ∀ (P : Prop) (r : Bool), (r = true → OKBlock bs b) → (r = true → ∀ j, (hj : j < bs.length) → i + 1 ≤ j → OKBlock bs (bs[j])) → r = true → ∀ j, (hj : j < bs.length) → i ≤ j → OKBlock bs (bs[j]) := by
      intro _ r h1 h2 hr j hj hij
      by_cases ej : j = i
      · subst ej; rw [hb]; exact h1 hr
      · exact h2 hr j hj (by omega)
    have open_ : ∀ k, k1 ≤ k → k3 ≤ k → rgValid.l0 (k + 1) (i : Int) bs = if r1 = true then (if N.isMessageB bs (i : Int) = true then (if decB bs b.f0 b.f2 = true then (if r3 = true then rgValid.l0 k ((i + 1 : Nat) : Int) bs else some false) else some false) else (if (b.f2.length : Int) < 1 then rgValid.j1 k (i : Int) true bs b.f0 b.f1 b.f2 else rgValid.j1 k (i : Int) (decide ((b.f2.length : Int) > 128)) bs b.f0 b.f1 b.f2)) else some false := by
      intro k h1 h3
      have q1 := up (f := fun k => rgrising.f k b.f2) (fun k => rgrising.mono _ _) hk1 h1
      have q3 := up (f := fun k => rgenc.f k bs b.f0 b.f1 b.f2) (fun k => rgenc.mono _ _ _ _ _) hk3 h3
      rw [rgValid.l0, if_pos (by omega), if_pos (by omega), e, q1, N.isMessageB_f, hd, q3, e2]
      simp only [Option.bind_some]
    by_cases t1 : r1 = true
    case neg => exact ⟨max k1 k3 + 1, false, by rw [open_ _ (by omega) (by omega), if_neg t1], fun h => by cases h⟩
    by_cases t2 : N.isMessageB bs (i : Int) = true
    · by_cases t3 : decB bs b.f0 b.f2 = true
      case neg => exact ⟨max k1 k3 + 1, false, by rw [open_ _ (by omega) (by omega), if_pos t1, if_pos t2, if_neg t3], fun h => by cases h⟩
      by_cases t4 : r3 = true
      case neg => exact ⟨max k1 k3 + 1, false, by rw [open_ _ (by omega) (by omega), if_pos t1, if_pos t2, if_pos t3, if_neg t4], fun h => by cases h⟩
      refine ⟨max K (max k1 k3) + 1, R, by rw [open_ _ (by omega) (by omega), if_pos t1, if_pos t2, if_pos t3, if_pos t4]; exact valid_up bs hK (by omega), ?_⟩
      exact next True R (fun _ => ⟨hr1 t1, .inl ⟨hmsg.1 t2, decB_ok t3, hr3 t4⟩⟩) hR
    · have hz : b.f0.length = 0 ∧ b.f1.length = 0 := by
        have := fun h => t2 (hmsg.2 h)
        constructor
        · false_or_by_contra; exact this (.inl (by omega))
        · false_or_by_contra; exact this (.inr (by omega))
      by_cases t5 : (b.f2.length : Int) < 1
      · refine ⟨max 1 (max k1 k3) + 1, false, ?_, fun h => by cases h⟩
        rw [open_ _ (by omega) (by omega), if_pos t1, if_neg t2, if_pos t5]
        obtain ⟨m, hm⟩ : ∃ m, max 1 (max k1 k3) = m + 1 := ⟨max 1 (max k1 k3) - 1, by omega⟩
        rw [hm, rgValid.j1, if_pos rfl]
      · by_cases t6 : (b.f2.length : Int) > 128
        · refine ⟨max 1 (max k1 k3) + 1, false, ?_, fun h => by cases h⟩
          rw [open_ _ (by omega) (by omega), if_pos t1, if_neg t2, if_neg t5]
          obtain ⟨m, hm⟩ : ∃ m, max 1 (max k1 k3) = m + 1 := ⟨max 1 (max k1 k3) - 1, by omega⟩
          rw [hm, rgValid.j1, if_pos (by simp; omega)]
        · obtain ⟨k, rr, hk, hrr⟩ := valid_rows bs (l := b.f0) (e := b.f1) (i := i) s2 (by omega) K R hK b.f2.length 0 (by omega)
          have hk' := fun m (h : k ≤ m) => up (f := fun k => rgValid.l1 k (i : Int) 0 bs b.f0 b.f1 b.f2) (fun k => (rgValid.mono_l k).2.2 _ _ _ _ _ _) hk h
          refine ⟨max k (max k1 k3) + 1 + 1, rr, ?_, ?_⟩
          · rw [open_ _ (by omega) (by omega), if_pos t1, if_neg t2, if_neg t5, rgValid.j1, if_neg (by simp; omega)]
            exact hk' _ (by omega)
          · refine next True rr (fun h => ⟨hr1 t1, .inr ⟨hz.1, hz.2, by omega, by omega, fun y hy => ?_⟩⟩) (fun h => hR (hrr h).1)
            obtain ⟨q, hq, rfl⟩ := List.mem_iff_getElem.1 hy
            have := (hrr h).2 q (by omega) hq
            rwa [at2_lt hq] at this
theorem valid_total (hlen : bs.length ≤ 1048576) (hs : ∀ b ∈ bs, b.f0.length ≤ 1048576 ∧ b.f1.length ≤ 1048576 ∧ b.f2.length ≤ 1048576) : ∃ k r, rgValid.f k bs = some r ∧ (r = true → ∀ b ∈ bs, OKBlock bs b) := by
  unfold rgValid.f
  by_cases h : (bs.length : Int) > 128
  · exact ⟨0, false, by rw [if_pos h], fun h => by cases h⟩
  · obtain ⟨k, r, hk, hr⟩ := valid_go bs hlen hs bs.length 0 (by omega)
    refine ⟨k, r, by rw [if_neg h]; exact hk, fun h b hb => ?_⟩
    obtain ⟨j, hj, rfl⟩ := List.mem_iff_getElem.1 hb
    exact hr h j hj (by omega)
end
end Go.Proofs.Ytedghbjmhcgilaa.A
end
section
namespace Go.Proofs.Ytedghbjmhcgilaa.A
open Go.RowKit Go.Shelf Go.Proofs.YtedghbjmhcgilaaW.PrintWords Go.Proofs.YtedghbjmhcgilaaW.PrintLast Go.Proofs.YtedghbjmhcgilaaW.PrintMore
open Go.Proofs.Ytedghbjmhcgilaa.POpt
def mapAt {α:Type} (g:α→α) (L:List α) (i:Nat):List α:=(L.take i).map g ++ L.drop i
section
variable {α:Type} {g:α→α} {L:List α}
theorem mapAt_zero:mapAt g L 0=L:=by simp [mapAt]
theorem mapAt_len (i:Nat):(mapAt g L i).length=L.length:=by simp [mapAt];omega
theorem mapAt_end:mapAt g L L.length=L.map g:=by simp [mapAt]
theorem mapAt_get {i:Nat} (hi:i < L.length):(mapAt g L i)[i]?=some L[i]:=by
 unfold mapAt
 rw [List.getElem?_append_right (by simp;omega),List.length_map,List.length_take,Nat.min_eq_left (by omega),Nat.sub_self,List.getElem?_drop]
 simp [hi]
theorem mapAt_succ {i:Nat} (hi:i < L.length):mapAt g L (i+1)=(mapAt g L i).set i (g L[i]):=by
 apply List.ext_getElem?
 intro j
 unfold mapAt
 rw [List.getElem?_set]
 by_cases h1:i=j
 ·subst h1
  rw [if_pos rfl,if_pos (by simp;omega),List.getElem?_append_left (by simp;omega)]
  simp [hi]
 ·rw [if_neg h1]
  by_cases h2:j < i
  ·rw [List.getElem?_append_left (by simp;omega),List.getElem?_append_left (by simp;omega)]
   simp only [List.getElem?_map,List.getElem?_take]
   rw [if_pos (by omega),if_pos h2]
  ·rw [List.getElem?_append_right (by simp;omega),List.getElem?_append_right (by simp;omega)]
   simp only [List.length_map,List.length_take,List.getElem?_drop]
   congr 1;omega
theorem mapAt_skip {i:Nat} (hi:i < L.length) (h:g L[i]=L[i]):mapAt g L (i+1)=mapAt g L i:=by
 rw [mapAt_succ hi,h]
 apply List.ext_getElem?
 intro j
 rw [List.getElem?_set]
 by_cases h1:i=j
 ·subst h1;rw [if_pos rfl,if_pos (by rw [mapAt_len];exact hi),mapAt_get hi]
 ·rw [if_neg h1]
end
theorem at5_mapAt {g:S35→S35} {L:List S35} {i:Nat} (hi:i < L.length):at5 (mapAt g L i) i=L[i]:=by
 unfold at5;rw [List.getD_eq_getElem?_getD,mapAt_get hi];rfl
def toT (out:List Bool) (n i:Nat):List Int:=(List.range (n+1)).map fun j=>if j < i then (cnt out j:Int) else 0
theorem toT_len (out:List Bool) (n i:Nat):(toT out n i).length=n+1:=by simp [toT]
theorem toT_zero (out:List Bool) (n:Nat):toT out n 0=List.replicate (n+1) 0:=by
 unfold toT
 simp only [Nat.not_lt_zero,if_false]
 rw [List.map_const',List.length_range]
theorem toT_set {out:List Bool} {n i:Nat} (hi:i < n+1):(toT out n i).set i (cnt out i:Int)=toT out n (i+1):=by
 apply List.ext_getElem?
 intro j
 rw [List.getElem?_set]
 unfold toT
 by_cases h1:i=j
 ·subst h1
  rw [if_pos rfl,if_pos (by simp;omega)]
  simp [hi]
 ·rw [if_neg h1]
  simp only [List.getElem?_map]
  by_cases hj:j < n+1
  ·rw [List.getElem?_range hj]
   simp only [Option.map_some,Option.some.injEq]
   by_cases h2:j < i
   ·rw [if_pos h2,if_pos (by omega)]
   ·rw [if_neg h2,if_neg (by omega)]
  ·rw [List.getElem?_eq_none (by simp;omega)];rfl
theorem toT_rd {out:List Bool} {n:Nat} {c:Int} (h0:0≤c) (h:c < n):rd (toT out n n) c=(cnt out c.toNat:Int):=by
 unfold rd toT
 rw [List.getD_eq_getElem?_getD,List.getElem?_map,List.getElem?_range (by omega)]
 simp only [Option.map_some,Option.getD_some]
 rw [if_pos (by omega)]
theorem wnat {n:Nat} (h:n≤1048577):wrap64 ((n:Int)+1)=((n+1:Nat):Int):=by rw [w64i (by omega)];omega
def rowT (out:List Bool) (y:S37):S37:=⟨y.f0,(cnt out y.f1.toNat:Int)⟩
section
variable {l e:List S35} {r:List S37} {out outE s sE:List Bool}
theorem stays_n {n:Nat} {c:Int} (ho:out.length=n) (h:stays out c.toNat) (h0:0≤c):c < n:=by
 have:=stays_lt h;omega
theorem w4 (hl:l.length≤1048576) (hr:r.length≤1048576) (hlo:out.length=l.length) (hrs:∀ y ∈ r,0≤y.f1∧y.f1 < l.length) (K0 K1:List S35):∀ (p i:Nat),i+p=r.length →
  ∃ k,rfwithout.l4 k (toT out l.length l.length) (i:Int) l e r K0 K1 ((r.take i).map (rowT out))=some (K0,K1,r.map (rowT out)):=by
 intro p
 induction p with
 | zero =>
  intro i hi
  refine ⟨1,?_⟩
  rw [rfwithout.l4,if_neg (by omega),show i=r.length by omega,List.take_length]
 | succ p ih =>
  intro i hi
  obtain ⟨k,hk⟩:=ih (i+1) (by omega)
  have hlt:i < r.length:=by omega
  obtain ⟨q0,q2⟩:=hrs r[i] (List.getElem_mem hlt)
  have hat:at2 r i=r[i]:=at2_lt hlt
  refine ⟨k+1,?_⟩
  rw [rfwithout.l4,rd37,hat,if_pos (by omega),if_pos (by omega),if_pos q0,if_pos (by rw [toT_len];omega),if_pos (by simp;omega),wnat (by omega),toT_rd q0 q2]
  rw [← hk]
  congr 1
  rw [List.take_succ_eq_append_getElem hlt,List.map_append,List.map_cons,List.map_nil]
  rfl
theorem w3 (hl:l.length≤1048576) (he:e.length≤1048576) (hr:r.length≤1048576) (hlo:out.length=l.length) (hle:outE.length=e.length) (hrs:∀ y ∈ r,0≤y.f1∧y.f1 < l.length)
  (K0 L:List S35) (hLl:L.length≤e.length) (hL:∀ i,(hi:i < L.length)→16≤(L[i]).f0∧namesStay outE L[i]):∀ (p i:Nat),i+p=L.length →
  ∃ k,rfwithout.l3 k (toT out l.length l.length) (toT outE e.length e.length) (i:Int) l e r K0 (mapAt (placed (toNow outE e.length)) L i)=some (K0,L.map (placed (toNow outE e.length)),r.map (rowT out)):=by
 intro p
 induction p with
 | zero =>
  intro i hi
  obtain ⟨k,hk⟩:=w4 (e:=e) hl hr hlo hrs K0 (L.map (placed (toNow outE e.length))) r.length 0 (by omega)
  refine ⟨k+1,?_⟩
  rw [rfwithout.l3,if_neg (by rw [mapAt_len];omega),show i=L.length by omega,mapAt_end]
  exact hk
 | succ p ih =>
  intro i hi
  obtain ⟨k,hk⟩:=ih (i+1) (by omega)
  have hlt:i < L.length:=by omega
  obtain ⟨h16,hns⟩:=hL i hlt
  refine ⟨k+1,?_⟩
  rw [rfwithout.l3,rd35,at5_mapAt hlt,mapAt_len,if_pos (by omega),if_pos (by omega),wnat (by omega)]
  by_cases h:(L[i]).f0=16
  ·obtain ⟨q0,q1⟩:=hns 2 (named_16 h)
   have q0':0≤(L[i]).f2:=q0
   have q1':stays outE (L[i]).f2.toNat:=q1
   have q2:=stays_n hle q1' q0'
   rw [if_pos h,if_pos q0',if_pos (by rw [toT_len];omega),toT_rd q0' q2,← hk,mapAt_succ hlt,placed_16 _ h,toNow_stay hle 16 _ q0' q1',Int.toNat_natCast]
  ·rw [if_neg h,← hk,mapAt_skip hlt (placed_else _ (by omega) (by omega) (by omega) h)]
theorem w2 (hl:l.length≤1048576) (he:e.length≤1048576) (hr:r.length≤1048576) (hlo:out.length=l.length) (hle:outE.length=e.length) (hrs:∀ y ∈ r,0≤y.f1∧y.f1 < l.length)
  (K1:List S35) (hKl:K1.length≤e.length) (hK:∀ i,(hi:i < K1.length)→16≤(K1[i]).f0∧namesStay outE K1[i])
  (L:List S35) (hLl:L.length≤l.length) (hL:∀ i,(hi:i < L.length)→(L[i]).f0≤15∧namesStay out L[i]):∀ (p i:Nat),i+p=L.length →
  ∃ k,rfwithout.l2 k (toT out l.length l.length) (toT outE e.length e.length) (i:Int) l e r (mapAt (placed (toNow out l.length)) L i) K1=some (L.map (placed (toNow out l.length)),K1.map (placed (toNow outE e.length)),r.map (rowT out)):=by
 intro p
 induction p with
 | zero =>
  intro i hi
  obtain ⟨k,hk⟩:=w3 hl he hr hlo hle hrs (L.map (placed (toNow out l.length))) K1 hKl hK K1.length 0 (by omega)
  refine ⟨k+1,?_⟩
  rw [rfwithout.l2,if_neg (by rw [mapAt_len];omega),show i=L.length by omega,mapAt_end]
  rw [mapAt_zero] at hk
  exact hk
 | succ p ih =>
  intro i hi
  obtain ⟨k,hk⟩:=ih (i+1) (by omega)
  have hlt:i < L.length:=by omega
  obtain ⟨h15,hns⟩:=hL i hlt
  refine ⟨k+1,?_⟩
  rw [rfwithout.l2,rd35,at5_mapAt hlt,mapAt_len,if_pos (by omega),if_pos (by omega),wnat (by omega)]
  by_cases h2:(L[i]).f0=2
  ·obtain ⟨q0,q1⟩:=hns 2 (named_2 h2)
   have q0':0≤(L[i]).f2:=q0
   have q1':stays out (L[i]).f2.toNat:=q1
   have q2:=stays_n hlo q1' q0'
   rw [if_pos h2,if_pos q0',if_pos (by rw [toT_len];omega),toT_rd q0' q2,← hk,mapAt_succ hlt,placed_2 _ h2,toNow_stay hlo 2 _ q0' q1',Int.toNat_natCast]
  ·rw [if_neg h2]
   by_cases h3:(L[i]).f0=3
   ·obtain ⟨q0,q1⟩:=hns 1 (named_3 h3)
    have q0':0≤(L[i]).f1:=q0
    have q1':stays out (L[i]).f1.toNat:=q1
    have q2:=stays_n hlo q1' q0'
    rw [if_pos h3,if_pos q0',if_pos (by rw [toT_len];omega),toT_rd q0' q2,← hk,mapAt_succ hlt,placed_3 _ h3,toNow_stay hlo 3 _ q0' q1',Int.toNat_natCast]
   ·rw [if_neg h3]
    by_cases h4:(L[i]).f0=4
    ·obtain ⟨q0,q1⟩:=hns 1 (named_4 h4)
     have q0':0≤(L[i]).f1:=q0
     have q1':stays out (L[i]).f1.toNat:=q1
     have q2:=stays_n hlo q1' q0'
     rw [if_pos h4,if_pos q0',if_pos (by rw [toT_len];omega),toT_rd q0' q2,← hk,mapAt_succ hlt,placed_4 _ h4,toNow_stay hlo 4 _ q0' q1',Int.toNat_natCast]
    ·rw [if_neg h4,← hk,mapAt_skip hlt (placed_else _ h2 h3 h4 (by omega))]
theorem kept_mem {i:Nat} (hlo:out.length=l.length) (hi:i < (keptAt l out l.length).length):∃ j,j < l.length∧stays out j∧(keptAt l out l.length)[i]=at5 l j:=by
 rw [kept_len hlo _ (Nat.le_refl _)] at hi
 obtain ⟨j,h1,h2,h3⟩:=cnt_ex hi
 refine ⟨j,h1,h2,?_⟩
 have:=kept_at hlo l.length (Nat.le_refl _) j h1 h2
 rw [h3,at5_lt] at this
 exact this
theorem flag {l:List S35} {out s:List Bool} (hlo:out.length=l.length) (hs:∀ i,i < l.length→s.getD i false=!(out.getD i false)) {i:Nat} (hi:i < l.length):rdOf false s (i:Int)=!(out[i]'(by omega)):=by
 unfold rdOf
 rw [Int.toNat_natCast,hs i hi,List.getD_eq_getElem?_getD,List.getElem?_eq_getElem (by omega)]
 rfl
theorem w1 (hl:l.length≤1048576) (he:e.length≤1048576) (hr:r.length≤1048576) (hlo:out.length=l.length) (hle:outE.length=e.length) (hrs:∀ y ∈ r,0≤y.f1∧y.f1 < l.length)
  (hsl:e.length≤sE.length) (hs:∀ i,i < e.length→sE.getD i false=!(outE.getD i false)) (hop:∀ i,i < e.length→16≤(at5 e i).f0) (hn:∀ i,stays outE i→namesStay outE (at5 e i))
  (L:List S35) (hLl:L.length≤l.length) (hL:∀ i,(hi:i < L.length)→(L[i]).f0≤15∧namesStay out L[i]):∀ (p i:Nat),i+p=e.length →
  ∃ k,rfwithout.l1 k sE (toT out l.length l.length) (toT outE e.length i) (i:Int) l e r L (keptAt e outE i)=some (L.map (placed (toNow out l.length)),(withoutP e [] outE).1,r.map (rowT out)):=by
 intro p
 induction p with
 | zero =>
  intro i hi
  obtain ⟨k,hk⟩:=w2 hl he hr hlo hle hrs (keptAt e outE e.length) (by rw [kept_len hle _ (Nat.le_refl _)];exact cnt_le _ _) (fun i hi=>by
   obtain ⟨j,h1,h2,h3⟩:=kept_mem hle hi
   rw [h3];exact ⟨hop j h1,hn j h2⟩) L hLl hL L.length 0 (by omega)
  refine ⟨k+1,?_⟩
  rw [rfwithout.l1,if_neg (by omega),show i=e.length by omega]
  rw [mapAt_zero] at hk
  exact hk
 | succ p ih =>
  intro i hi
  obtain ⟨k,hk⟩:=ih (i+1) (by omega)
  have hlt:i < e.length:=by omega
  have hkl:=kept_len (l:=e) hle i (by omega)
  have hcl:=cnt_le outE i
  refine ⟨k+1,?_⟩
  rw [rfwithout.l1,if_pos (by omega),if_pos (by omega),if_pos (by rw [toT_len];omega),Option.bind_some,if_pos (by omega),flag hle hs hlt,Int.toNat_natCast,hkl,toT_set (by omega),wnat (by omega),rd35,at5_lt hlt]
  rw [kept_step hlt hle] at hk
  by_cases ho:outE[i]=true
  ·rw [if_pos ho] at hk
   rw [if_neg (by rw [ho];simp)];exact hk
  ·rw [if_neg ho] at hk
   rw [if_pos (by simpa using ho),if_pos (by omega)]
   exact hk
theorem w0 (hl:l.length≤1048576) (he:e.length≤1048576) (hr:r.length≤1048576) (hlo:out.length=l.length) (hle:outE.length=e.length) (hrs:∀ y ∈ r,0≤y.f1∧y.f1 < l.length)
  (hsl:e.length≤sE.length) (hs:∀ i,i < e.length→sE.getD i false=!(outE.getD i false)) (hop:∀ i,i < e.length→16≤(at5 e i).f0) (hn:∀ i,stays outE i→namesStay outE (at5 e i))
  (hsl0:l.length≤s.length) (hs0:∀ i,i < l.length→s.getD i false=!(out.getD i false)) (hop0:∀ i,i < l.length→(at5 l i).f0≤15) (hn0:∀ i,stays out i→namesStay out (at5 l i)):∀ (p i:Nat),i+p=l.length →
  ∃ k,rfwithout.l0 k s sE (toT out l.length i) (i:Int) l e r (keptAt l out i)=some ((withoutP l r out).1,(withoutP e [] outE).1,r.map (rowT out)):=by
 intro p
 induction p with
 | zero =>
  intro i hi
  obtain ⟨k,hk⟩:=w1 hl he hr hlo hle hrs hsl hs hop hn (keptAt l out l.length) (by rw [kept_len hlo _ (Nat.le_refl _)];exact cnt_le _ _) (fun i hi=>by
   obtain ⟨j,h1,h2,h3⟩:=kept_mem hlo hi
   rw [h3];exact ⟨hop0 j h1,hn0 j h2⟩) e.length 0 (by omega)
  refine ⟨k+1,?_⟩
  rw [rfwithout.l0,if_neg (by omega),show i=l.length by omega,wnat (by omega),if_pos (by omega),if_pos (by omega),Int.toNat_natCast,← toT_zero]
  exact hk
 | succ p ih =>
  intro i hi
  obtain ⟨k,hk⟩:=ih (i+1) (by omega)
  have hlt:i < l.length:=by omega
  have hkl:=kept_len (l:=l) hlo i (by omega)
  have hcl:=cnt_le out i
  refine ⟨k+1,?_⟩
  rw [rfwithout.l0,if_pos (by omega),if_pos (by omega),if_pos (by rw [toT_len];omega),Option.bind_some,if_pos (by omega),flag hlo hs0 hlt,Int.toNat_natCast,hkl,toT_set (by omega),wnat (by omega),rd35,at5_lt hlt]
  rw [kept_step hlt hlo] at hk
  by_cases ho:out[i]=true
  ·rw [if_pos ho] at hk
   rw [if_neg (by rw [ho];simp)];exact hk
  ·rw [if_neg ho] at hk
   rw [if_pos (by simpa using ho),if_pos (by omega)]
   exact hk
theorem rowT_stays (hlo:out.length=l.length) (h:∀ y ∈ r,0≤y.f1∧stays out y.f1.toNat):r.map (rowT out)=(withoutP l r out).2:=by
 show _=r.map (placedR (toNow out l.length))
 refine List.map_congr_left fun y hy=>?_
 obtain ⟨q0,q1⟩:=h y hy
 unfold rowT placedR
 rw [toNow_stay hlo 3 _ q0 q1]
theorem refWithout (hl:l.length≤1048576) (he:e.length≤1048576) (hr:r.length≤1048576) (hlo:out.length=l.length) (hle:outE.length=e.length) (hrs:∀ y ∈ r,0≤y.f1∧y.f1 < l.length)
  (hsl:e.length≤sE.length) (hs:∀ i,i < e.length→sE.getD i false=!(outE.getD i false)) (hop:∀ i,i < e.length→16≤(at5 e i).f0) (hn:∀ i,stays outE i→namesStay outE (at5 e i))
  (hsl0:l.length≤s.length) (hs0:∀ i,i < l.length→s.getD i false=!(out.getD i false)) (hop0:∀ i,i < l.length→(at5 l i).f0≤15) (hn0:∀ i,stays out i→namesStay out (at5 l i)) :
  ∃ k,rfwithout.f k l e r s sE=some ((withoutP l r out).1,(withoutP e [] outE).1,r.map (rowT out)):=by
 obtain ⟨k,hk⟩:=w0 hl he hr hlo hle hrs hsl hs hop hn hsl0 hs0 hop0 hn0 l.length 0 (by omega)
 refine ⟨k,?_⟩
 unfold rfwithout.f
 rw [wnat (by omega),if_pos (by omega),if_pos (by omega),Int.toNat_natCast,← toT_zero]
 exact hk
end
theorem it_first {old:List S35} {op c c':Int} (h:hop old op c=some c'):∀ k,it old op (k+1) c=it old op k c':=by
 intro k
 induction k with
 | zero=>show (hop old op c).getD c=c';rw [h];rfl
 | succ k ih=>rw [it,ih];rfl
theorem it_stays {old:List S35} {op c:Int} (h:hop old op c=none) (k:Nat):it old op k c=c:=by
 have:=it_stop (old:=old) (op:=op) (c:=c) (k:=0) h k
 rw [Nat.zero_add] at this
 exact this
section
variable {l e:List S35} {r:List S37}
theorem hop_eq (op:Int) {c:Nat} (hc:c < l.length):hop l op (c:Int)=if (at5 l c).f0≠4 then none else if op≠4∧(at5 l c).f1=0 then none else some (at5 l c).f1:=by
 unfold hop
 rw [if_neg (by omega),if_neg (by omega),rd35]
theorem follow_go (hg:GoodD l r) (l1:List S35) (l2:List S37) (op:Int) (st:Bool) (hst:st=!(decide (op=4))):∀ (m c:Nat),c < l.length→l.length - c≤m →
  ∃ (j c':Nat) (k:Nat),j≤l.length - c∧c' < l.length∧it l op j (c:Int)=(c':Int)∧hop l op (c':Int)=none∧rffollow.l0 k (c:Int) st l l1 l2=some (c':Int)∧((c'=0∧op=4)∨c≤c'):=by
 intro m
 induction m with
 | zero=>intro c hc hm;omega
 | succ m ih =>
  intro c hc hm
  by_cases h4:(at5 l c).f0=4
  ·by_cases hz:(at5 l c).f1=0
   ·by_cases ho:op=4
    ·
     have h0:hop l op ((0:Nat):Int)=none:=by rw [hop_eq op hg.pos,if_pos (by rw [hg.head];omega)]
     have h1:hop l op (c:Int)=some ((0:Nat):Int):=by rw [hop_eq op hc,if_neg (by omega),if_neg (by omega),hz];rfl
     refine ⟨1,0,2,by omega,hg.pos,?_,h0,?_,.inl ⟨rfl,ho⟩⟩
     ·rw [it_first h1];rfl
     ·have hs:st=false:=by rw [hst];simp [ho]
      subst hs
      rw [rffollow.l0,rd35,if_pos (by omega),if_pos (by omega),if_pos h4,if_neg (by omega),if_neg (by simp),hz]
      rw [rffollow.l0,show (0:Int)=((0:Nat):Int) from rfl,rd35,if_pos (by omega),if_pos (by have:=hg.pos;omega),if_neg (by rw [hg.head];omega)]
    ·have h1:hop l op (c:Int)=none:=by rw [hop_eq op hc,if_neg (by omega),if_pos ⟨ho,hz⟩]
     refine ⟨0,c,1,by omega,hc,rfl,h1,?_,.inr (Nat.le_refl _)⟩
     have hs:st=true:=by rw [hst];simp [ho]
     subst hs
     rw [rffollow.l0,rd35,if_pos (by omega),if_pos (by omega),if_pos h4,if_neg (by omega),if_pos rfl]
   ·rcases hg.go c hc h4 with q | ⟨q1,q2⟩
    ·exact absurd q hz
    ·obtain ⟨d,hd⟩:∃ d:Nat,(at5 l c).f1=(d:Int):=⟨(at5 l c).f1.toNat,by omega⟩
     rw [hd] at q1 q2
     obtain ⟨j,c',k,r1,r2,r3,r4,r5,r6⟩:=ih d (by omega) (by omega)
     have h1:hop l op (c:Int)=some (d:Int):=by rw [hop_eq op hc,if_neg (by omega),if_neg (by omega),hd]
     refine ⟨j+1,c',k+1,by omega,r2,by rw [it_first h1];exact r3,r4,?_,(by rcases r6 with q | q;exact .inl q;exact .inr (by omega))⟩
     rw [rffollow.l0,rd35,if_pos (by omega),if_pos (by omega),if_pos h4,hd,if_pos (by omega)]
     exact r5
  ·have h1:hop l op (c:Int)=none:=by rw [hop_eq op hc,if_pos h4]
   refine ⟨0,c,1,by omega,hc,rfl,h1,?_,.inr (Nat.le_refl _)⟩
   rw [rffollow.l0,rd35,if_pos (by omega),if_pos (by omega),if_neg h4]
theorem follow_thr (hg:GoodD l r) (l1:List S35) (l2:List S37) (op:Int) (st:Bool) (hst:st=!(decide (op=4))) {c:Int} (h0:0≤c) (h1:c < l.length) :
  ∃ k,rffollow.f k l l1 l2 c st=some (thr l op c)∧0≤thr l op c∧thr l op c < l.length∧((thr l op c=0∧op=4)∨c≤thr l op c):=by
 obtain ⟨n,rfl⟩:∃ n:Nat,c=(n:Int):=⟨c.toNat,by omega⟩
 obtain ⟨j,c',k,r1,r2,r3,r4,r5,r6⟩:=follow_go hg l1 l2 op st hst l.length n (by omega) (by omega)
 have ht:thr l op (n:Int)=(c':Int):=by
  unfold thr
  have:=it_stop (old:=l) (op:=op) (c:=(n:Int)) (k:=j) (by rw [r3];exact r4) (l.length - j)
  rw [show j+(l.length - j)=l.length by omega] at this
  rw [this,r3]
 refine ⟨k,?_,by rw [ht];omega,by rw [ht];omega,(by rw [ht];rcases r6 with ⟨q1,q2⟩ | q;exact .inl ⟨by omega,q2⟩;exact .inr (by omega))⟩
 unfold rffollow.f
 rw [r5,ht]
theorem follow_up {k m:Nat} {l l1:List S35} {l2:List S37} {c v:Int} {st:Bool} (h:rffollow.f k l l1 l2 c st=some v) (hle:k≤m):rffollow.f m l l1 l2 c st=some v:=up (f:=fun k=>rffollow.f k l l1 l2 c st) (fun k=>rffollow.mono _ _ _ _ _ k) h hle
theorem thread_up0 {k m:Nat} {i:Int} {a b c d:List S35} {x y:List S37} {v:List S35 × List S35 × List S37} (h:rfThread.l0 k i a b x c d y=some v) (hle:k≤m):rfThread.l0 m i a b x c d y=some v:=up (f:=fun k=>rfThread.l0 k i a b x c d y) (fun k=>(rfThread.mono_l k).1 _ _ _ _ _ _ _) h hle
theorem thread_up1 {k m:Nat} {i:Int} {a b c d:List S35} {x y:List S37} {v:List S35 × List S35 × List S37} (h:rfThread.l1 k i a b x c d y=some v) (hle:k≤m):rfThread.l1 m i a b x c d y=some v:=up (f:=fun k=>rfThread.l1 k i a b x c d y) (fun k=>(rfThread.mono_l k).2 _ _ _ _ _ _ _) h hle
theorem at2_mapAt {g:S37→S37} {L:List S37} {i:Nat} (hi:i < L.length):at2 (mapAt g L i) i=L[i]:=by
 unfold at2;rw [List.getD_eq_getElem?_getD,mapAt_get hi];rfl
theorem t1 (hg:GoodD l r) (hr:r.length≤1048576) (D E:List S35):∀ (p i:Nat),i+p=r.length→∃ k,rfThread.l1 k (i:Int) l e r D E (mapAt (placedR (thr l)) r i)=some (D,E,r.map (placedR (thr l))):=by
 intro p
 induction p with
 | zero =>
  intro i hi
  refine ⟨1,?_⟩
  rw [rfThread.l1,if_neg (by omega),show i=r.length by omega,mapAt_end]
 | succ p ih =>
  intro i hi
  obtain ⟨k,hk⟩:=ih (i+1) (by omega)
  have hlt:i < r.length:=by omega
  obtain ⟨q1,q2⟩:=hg.rows r[i] (List.getElem_mem hlt)
  obtain ⟨kf,hf,_,_,_⟩:=follow_thr hg e r 3 true (by decide) (Int.le_of_lt q1) q2
  refine ⟨max k kf+1,?_⟩
  rw [rfThread.l1,if_pos (by omega),if_pos (by omega),rd37,at2_lt hlt,follow_up hf (Nat.le_max_right _ _),Option.bind_some,if_pos (by rw [mapAt_len];omega),rd37,at2_mapAt hlt,wnat (by omega),Int.toNat_natCast]
  rw [← thread_up1 hk (Nat.le_max_left k kf),mapAt_succ hlt]
  rfl
theorem t0 (hg:GoodD l r) (hl:l.length≤1048576) (hr:r.length≤1048576) (E:List S35):∀ (p i:Nat),i+p=l.length→∃ k,rfThread.l0 k (i:Int) l e r (mapAt (placed (thr l)) l i) E r=some (l.map (placed (thr l)),E,r.map (placedR (thr l))):=by
 intro p
 induction p with
 | zero =>
  intro i hi
  obtain ⟨k,hk⟩:=t1 (e:=e) hg hr (l.map (placed (thr l))) E r.length 0 (by omega)
  rw [mapAt_zero] at hk
  refine ⟨k+1,?_⟩
  rw [rfThread.l0,if_neg (by omega),show i=l.length by omega,mapAt_end]
  exact hk
 | succ p ih =>
  intro i hi
  obtain ⟨k,hk⟩:=ih (i+1) (by omega)
  have hlt:i < l.length:=by omega
  have hat:at5 l i=l[i]:=at5_lt hlt
  by_cases h2:(at5 l i).f0=2
  ·obtain ⟨q1,q2⟩:=hg.cas i hlt h2
   obtain ⟨kf,hf,_,_,_⟩:=follow_thr hg e r 2 true (by decide) (show 0≤(at5 l i).f2 by omega) q2
   refine ⟨max k kf+1,?_⟩
   rw [rfThread.l0,if_pos (by omega),if_pos (by omega),rd35,if_pos h2,follow_up hf (Nat.le_max_right _ _),Option.bind_some,if_pos (by rw [mapAt_len];omega),rd35,at5_mapAt hlt,wnat (by omega),Int.toNat_natCast]
   rw [← thread_up0 hk (Nat.le_max_left k kf),mapAt_succ hlt,placed_2 _ (by rw [← hat];exact h2),hat]
  ·by_cases h3:(at5 l i).f0=3
   ·obtain ⟨q1,q2⟩:=hg.jump i hlt h3
    obtain ⟨kf,hf,_,_,_⟩:=follow_thr hg e r 3 true (by decide) (show 0≤(at5 l i).f1 by omega) q2
    refine ⟨max k kf+1,?_⟩
    rw [rfThread.l0,if_pos (by omega),if_pos (by omega),rd35,if_neg h2,if_pos h3,follow_up hf (Nat.le_max_right _ _),Option.bind_some,if_pos (by rw [mapAt_len];omega),rd35,at5_mapAt hlt,wnat (by omega),Int.toNat_natCast]
    rw [← thread_up0 hk (Nat.le_max_left k kf),mapAt_succ hlt,placed_3 _ (by rw [← hat];exact h3),hat]
   ·by_cases h4:(at5 l i).f0=4
    ·have q:0≤(at5 l i).f1∧(at5 l i).f1 < l.length:=by
      rcases hg.go i hlt h4 with q | q
      ·rw [q];have:=hg.pos;omega
      ·omega
     obtain ⟨kf,hf,_,_,_⟩:=follow_thr hg e r 4 false (by decide) q.1 q.2
     refine ⟨max k kf+1,?_⟩
     rw [rfThread.l0,if_pos (by omega),if_pos (by omega),rd35,if_neg h2,if_neg h3,if_pos h4,follow_up hf (Nat.le_max_right _ _),Option.bind_some,if_pos (by rw [mapAt_len];omega),rd35,at5_mapAt hlt,wnat (by omega),Int.toNat_natCast]
     rw [← thread_up0 hk (Nat.le_max_left k kf),mapAt_succ hlt,placed_4 _ (by rw [← hat];exact h4),hat]
    ·refine ⟨k+1,?_⟩
     rw [rfThread.l0,if_pos (by omega),if_pos (by omega),rd35,if_neg h2,if_neg h3,if_neg h4,wnat (by omega),← hk,mapAt_skip hlt]
     have:=hg.op i hlt
     exact placed_else _ (by rw [← hat];exact h2) (by rw [← hat];exact h3) (by rw [← hat];exact h4) (by rw [← hat];omega)
theorem copied_ok (hl:l.length≤1048576) (he:e.length≤1048576) (hr:r.length≤1048576):rfcopied.f l e r=some (l,e,r):=by
 unfold rfcopied.f
 rw [if_pos (by simp;omega),if_pos (by simp;omega),if_pos (by simp;omega)]
 rfl
theorem isEnum_no (h:0 < l.length):rfisEnum.f l e r=some false:=by
 unfold rfisEnum.f
 rw [if_neg (by omega)]
theorem isEnum_yes (h:l.length=0) (h':e.length=0):rfisEnum.f l e r=some true:=by
 unfold rfisEnum.f
 rw [if_pos (by omega),h'];rfl
theorem refThread (hg:GoodD l r) (hl:l.length≤1048576) (he:e.length≤1048576) (hr:r.length≤1048576):∃ k,rfThread.f k l e r=some (l.map (placed (thr l)),e,r.map (placedR (thr l))):=by
 obtain ⟨k,hk⟩:=t0 (e:=e) hg hl hr e l.length 0 (by omega)
 rw [mapAt_zero] at hk
 refine ⟨k,?_⟩
 unfold rfThread.f
 rw [copied_ok hl he hr,Option.bind_some,isEnum_no hg.pos,Option.bind_some,if_neg (by simp)]
 exact hk
theorem thr_good (hg:GoodD l r):GoodD (l.map (placed (thr l))) (r.map (placedR (thr l))):=by
 have up:∀ (op:Int) (c:Int),op≠4→0≤c→c < l.length→c≤thr l op c∧thr l op c < l.length:=by
  intro op c ho h0 h1
  obtain ⟨_,_,_,q1,q2⟩:=follow_thr hg [] [] op true (by simp [ho]) h0 h1
  rcases q2 with ⟨_,q⟩ | q
  ·exact absurd q ho
  ·exact ⟨q,q1⟩
 have hat:∀ i,i < l.length→at5 (l.map (placed (thr l))) i=placed (thr l) (at5 l i):=fun i hi=>at5_map hi
 have hf0:∀ i,i < l.length→(at5 (l.map (placed (thr l))) i).f0=(at5 l i).f0:=fun i hi=>by rw [hat i hi,placed_f0]
 have hlen:(l.map (placed (thr l))).length=l.length:=List.length_map _
 have hpos:=hg.pos
 refine ⟨by rw [hlen];exact hpos,by rw [hf0 0 hpos];exact hg.head,by rw [hlen,hf0 _ (by omega)];exact hg.last,?_,?_,?_,?_,?_,?_,?_,?_⟩
 ·intro i hi;rw [hlen] at hi;rw [hf0 i hi];exact hg.op i hi
 ·intro i hi h;rw [hlen] at hi;rw [hf0 i hi] at h;exact hg.tag i hi h
 ·intro i hi h
  rw [hlen] at hi ⊢
  rw [hf0 i hi] at h
  obtain ⟨q1,q2⟩:=hg.cas i hi h
  rw [hat i hi,placed_2 _ h]
  have:=up 2 _ (by decide) (show 0≤(at5 l i).f2 by omega) q2
  exact ⟨by show (i:Int) < thr l 2 _;omega,this.2⟩
 ·intro i hi h
  rw [hlen] at hi ⊢
  rw [hf0 i hi] at h
  obtain ⟨q1,q2⟩:=hg.jump i hi h
  rw [hat i hi,placed_3 _ h]
  have:=up 3 _ (by decide) (show 0≤(at5 l i).f1 by omega) q2
  exact ⟨by show (i:Int) < thr l 3 _;omega,this.2⟩
 ·intro i hi h
  rw [hlen] at hi ⊢
  rw [hf0 i hi] at h
  rw [hat i hi,placed_4 _ h]
  show thr l 4 _=0∨((i:Int) < thr l 4 _∧thr l 4 _ < l.length)
  rcases hg.go i hi h with q | ⟨q1,q2⟩
  ·left
   rw [q]
   unfold thr
   refine it_stays ?_ _
   have:=hop_eq (l:=l) 4 hpos
   rw [if_pos (by rw [hg.head];omega)] at this
   exact this
  ·obtain ⟨_,_,_,q3,q4⟩:=follow_thr hg [] [] 4 false (by decide) (show 0≤(at5 l i).f1 by omega) q2
   rcases q4 with ⟨q,_⟩ | q
   ·exact .inl q
   ·right;exact ⟨by omega,q3⟩
 ·intro y hy
  rw [hlen]
  obtain ⟨x,hx,rfl⟩:=List.mem_map.1 hy
  obtain ⟨q1,q2⟩:=hg.rows x hx
  have:=up 3 _ (by decide) (Int.le_of_lt q1) q2
  exact ⟨by show 0 < thr l 3 _;omega,this.2⟩
 ·intro y hy i hi h
  rw [hlen] at hi
  rw [hf0 i hi] at h
  obtain ⟨x,hx,rfl⟩:=List.mem_map.1 hy
  obtain ⟨q1,q2⟩:=hg.rows x hx
  have:=up 3 _ (by decide) (Int.le_of_lt q1) q2
  have:=hg.rowsJ x hx i hi h
  show (i:Int) < thr l 3 _
  omega
 ·intro hr i hi
  rw [hlen] at hi
  rw [hf0 i hi]
  exact hg.bare (List.map_eq_nil_iff.1 hr) i hi
end
theorem all_go {n:Nat} (hn:n≤1048576):∀ (p i:Nat),i+p=n→∃ k,rfall.l0 k (n:Int) (List.replicate i true ++ List.replicate (n - i) false) (i:Int)=some (List.replicate n true):=by
 intro p
 induction p with
 | zero =>
  intro i hi
  refine ⟨1,?_⟩
  rw [rfall.l0,if_neg (by omega),show n - i=0 by omega,show i=n by omega]
  simp
 | succ p ih =>
  intro i hi
  obtain ⟨k,hk⟩:=ih (i+1) (by omega)
  refine ⟨k+1,?_⟩
  rw [rfall.l0,if_pos (by omega),if_pos (by omega),if_pos (by simp;omega),wnat (by omega),Int.toNat_natCast,← hk]
  congr 1
  obtain ⟨m,hm⟩:∃ m,n - i=m+1:=⟨n - i - 1,by omega⟩
  rw [hm,show n - (i+1)=m by omega,List.replicate_succ,List.set_append_right _ _ (by simp),List.length_replicate,Nat.sub_self,List.set_cons_zero,List.replicate_succ']
  simp
theorem all_ok {n:Nat} (hn:n≤1048576):∃ k,rfall.f k (n:Int)=some (List.replicate n true):=by
 obtain ⟨k,hk⟩:=all_go hn n 0 (by omega)
 refine ⟨k,?_⟩
 unfold rfall.f
 rw [if_pos (by omega),if_pos (by omega),Int.toNat_natCast]
 simpa using hk
theorem all_up {k m:Nat} {n:Int} {v:List Bool} (h:rfall.f k n=some v) (hle:k≤m):rfall.f m n=some v:=up (f:=fun k=>rfall.f k n) (fun k=>rfall.mono _ k) h hle
def setM (T:List Bool) (c:Int):List Bool:=T.set c.toNat true
theorem setMs_len (L:List Int):∀ T:List Bool,(L.foldl setM T).length=T.length:=by
 induction L with
 | nil=>intro T;rfl
 | cons c L ih=>intro T;rw [List.foldl_cons,ih];simp [setM]
theorem setMs_get (L:List Int):∀ (T:List Bool) (j:Nat),(∀ c ∈ L,0≤c∧c < T.length)→(L.foldl setM T).getD j false=(T.getD j false || decide ((j:Int) ∈ L)):=by
 induction L with
 | nil=>intro T j _;simp
 | cons c L ih =>
  intro T j h
  obtain ⟨h0,h1⟩:=h c (List.mem_cons_self ..)
  rw [List.foldl_cons,ih (setM T c) j (fun x hx=>by rw [setM,List.length_set];exact h x (List.mem_cons_of_mem _ hx))]
  have e1:(setM T c).getD j false=(T.getD j false || decide ((j:Int)=c)):=by
   unfold setM
   rw [List.getD_eq_getElem?_getD,List.getD_eq_getElem?_getD,List.getElem?_set]
   by_cases e:c.toNat=j
   ·rw [if_pos e,if_pos (by omega)]
    have:(j:Int)=c:=by omega
    simp [this]
   ·rw [if_neg e]
    have:¬ (j:Int)=c:=by omega
    simp [this]
  rw [e1]
  simp only [List.mem_cons]
  by_cases e:(j:Int)=c
  ·simp [e]
  ·simp [e]
def valsAt (l:List S35) (i:Nat):List Int:=(l.take i).filterMap fun x=>(namedOff x.f0).map (getF x)
theorem valsAt_some {l:List S35} {i j:Nat} (hi:i < l.length) (h:namedOff (at5 l i).f0=some j):valsAt l (i+1)=valsAt l i ++ [getF (at5 l i) j]:=by
 unfold valsAt
 rw [List.take_succ_eq_append_getElem hi,List.filterMap_append,← at5_lt hi]
 simp [h]
theorem valsAt_none {l:List S35} {i:Nat} (hi:i < l.length) (h:namedOff (at5 l i).f0=none):valsAt l (i+1)=valsAt l i:=by
 unfold valsAt
 rw [List.take_succ_eq_append_getElem hi,List.filterMap_append,← at5_lt hi]
 simp [h]
theorem fold_snoc (L:List Int) (c:Int) (T:List Bool):(L ++ [c]).foldl setM T=((L.foldl setM T).set c.toNat true):=by rw [List.foldl_append];rfl
section
variable {l e:List S35} {r:List S37}
abbrev Out3:=List S35 × List S35 × List S37
theorem f4up {k m:Nat} {a b c:List Bool} {i:Int} {x y z u:List S35} {p q:List S37} {v:Out3} (h:rfFuse.l4 k a b c i x y p z u q=some v) (hle:k≤m):rfFuse.l4 m a b c i x y p z u q=some v:=up (f:=fun k=>rfFuse.l4 k a b c i x y p z u q) (fun k=>(rfFuse.mono_l k).2.2.2.2 _ _ _ _ _ _ _ _ _ _) h hle
theorem f3up {k m:Nat} {a b c:List Bool} {i:Int} {x y z u:List S35} {p q:List S37} {v:Out3} (h:rfFuse.l3 k a b c i x y p z u q=some v) (hle:k≤m):rfFuse.l3 m a b c i x y p z u q=some v:=up (f:=fun k=>rfFuse.l3 k a b c i x y p z u q) (fun k=>(rfFuse.mono_l k).2.2.2.1 _ _ _ _ _ _ _ _ _ _) h hle
theorem not_set {o:List Bool} {i:Nat}:(o.map (!·)).set i false=(o.set i true).map (!·):=by rw [List.map_set];rfl
theorem fz_at {s l:List S35} {i:Nat} (h1:at5 s i=at5 l i) (h2:at5 s (i+1)=at5 l (i+1)):fz (s.getD i z35) (s.getD (i+1) z35)=fz (at5 l i) (at5 l (i+1)):=by
 show fz (at5 s i) (at5 s (i+1))=_
 rw [h1,h2]
theorem wnat2 {n:Nat} (h:n≤1048576):wrap64 (wrap64 ((n:Int)+1)+1)=((n+2:Nat):Int):=by rw [wnat (by omega),wnat (by omega)]
theorem rdT {x T:List Bool} {n j:Nat} (hT:∀ j,j < n→x.getD j false=T.getD j false) (hj:j < n):rdOf false x (j:Int)=T.getD j false:=by
 unfold rdOf;rw [Int.toNat_natCast];exact hT j hj
theorem fl4 (he:e.length≤1048576) (hop:∀ i,i < e.length→16≤(at5 e i).f0) (T x5 x9:List Bool) (hx5:x5.length=e.length+1) (hT:∀ j,j < e.length→x5.getD j false=T.getD j false) (D:List S35) (q:List S37) (R:Out3) :
  ∀ (f i:Nat) (s:List S35) (o:List Bool),e.length - i≤f→i≤e.length→s.length=e.length→o.length=e.length→(∀ j,i≤j→at5 s j=at5 e j) →
   (∃ K,rfwithout.f K D (fuseGo T f s o i).1 q x9 ((fuseGo T f s o i).2.map (!·))=some R)→∃ k,rfFuse.l4 k x5 x9 (o.map (!·)) (i:Int) l e r D s q=some R:=by
 intro f
 induction f with
 | zero =>
  intro i s o hf hi hs ho hrest ⟨K,hK⟩
  refine ⟨K+1,?_⟩
  have hK':rfwithout.f K D s q x9 (o.map (!·))=some R:=hK
  rw [rfFuse.l4,wnat (by omega),if_neg (by omega),hK'];rfl
 | succ f ih =>
  intro i s o hf hi hs ho hrest ⟨K,hK⟩
  by_cases hlt:i+1 < e.length
  ·have e0:=hrest i (Nat.le_refl _)
   have e1:=hrest (i+1) (by omega)
   have hz:=fz_at e0 e1
   have hls:i+1 < s.length:=by omega
   have h16:=hop i (by omega)
   have next:fz (at5 e i) (at5 e (i+1))=none∨(∃ z,fz (at5 e i) (at5 e (i+1))=some z∧T.getD (i+1) false=true)→∃ k,rfFuse.l4 k x5 x9 (o.map (!·)) ((i+1:Nat):Int) l e r D s q=some R:=by
    intro hn
    refine ih (i+1) s o (by omega) (by omega) hs ho (fun j hj=>hrest j (by omega)) ⟨K,?_⟩
    rcases hn with hn | ⟨z,hn,ht⟩
    ·rw [fuseGo_none hls (by rw [hz];exact hn)] at hK;exact hK
    ·rw [fuseGo_named hls (by rw [hz];exact hn) ht] at hK;exact hK
   by_cases h17:(at5 e i).f0=17
   ·by_cases h18:(at5 e (i+1)).f0=18
    ·have hfz:fz (at5 e i) (at5 e (i+1))=some ⟨25,(at5 e i).f1,(at5 e (i+1)).f1,0,0⟩:=by unfold fz;rw [if_neg (by omega),if_neg (by omega),if_pos ⟨h17,h18⟩]
     cases ht:T.getD (i+1) false with
     | true =>
      obtain ⟨k,hk⟩:=next (.inr ⟨_,hfz,ht⟩)
      refine ⟨k+1,?_⟩
      rw [rfFuse.l4,wnat (by omega),if_pos (by omega),if_pos (by omega),if_pos (by omega),rd35,if_pos h17,if_pos (by omega),rd35,if_pos h18,if_pos (by omega),rdT hT hlt,ht,if_pos rfl]
      exact hk
     | false =>
      rw [fuseGo_some hls (by rw [hz];exact hfz) ht] at hK
      obtain ⟨k,hk⟩:=ih (i+2) (s.set i ⟨25,(at5 e i).f1,(at5 e (i+1)).f1,0,0⟩) (o.set (i+1) true) (by omega) (by omega) (by simp [hs]) (by simp [ho]) (fun j hj=>by rw [at5_set (by omega),if_neg (by omega)];exact hrest j (by omega)) ⟨K,hK⟩
      refine ⟨k+1,?_⟩
      rw [rfFuse.l4,wnat2 (by omega),wnat (by omega),if_pos (by omega),if_pos (by omega),if_pos (by omega),rd35,if_pos h17,if_pos (by omega),rd35,if_pos h18,if_pos (by omega),rdT hT hlt,ht,if_neg (by simp),if_pos (by omega),if_pos (by simp;omega),Int.toNat_natCast,Int.toNat_natCast,not_set]
      exact hk
    ·have hfz:fz (at5 e i) (at5 e (i+1))=none:=by unfold fz;rw [if_neg (by omega),if_neg (by omega),if_neg (by omega)]
     obtain ⟨k,hk⟩:=next (.inl hfz)
     refine ⟨k+1,?_⟩
     rw [rfFuse.l4,wnat (by omega),if_pos (by omega),if_pos (by omega),if_pos (by omega),rd35,if_pos h17,if_pos (by omega),rd35,if_neg h18]
     exact hk
   ·have hfz:fz (at5 e i) (at5 e (i+1))=none:=by unfold fz;rw [if_neg (by omega),if_neg (by omega),if_neg (by omega)]
    obtain ⟨k,hk⟩:=next (.inl hfz)
    refine ⟨k+1,?_⟩
    rw [rfFuse.l4,wnat (by omega),if_pos (by omega),if_pos (by omega),if_pos (by omega),rd35,if_neg h17]
    exact hk
  ·refine ⟨K+1,?_⟩
   rw [fuseGo_end (by omega)] at hK
   rw [rfFuse.l4,wnat (by omega),if_neg (by omega),hK];rfl
theorem fl3 (hl:l.length≤1048576) (hop:∀ i,i < l.length→(at5 l i).f0≤15) (T x4 x5:List Bool) (hx4:x4.length=l.length+1) (hT:∀ j,j < l.length→x4.getD j false=T.getD j false) (E:List S35) (q:List S37) (R:Out3) :
  ∀ (f i:Nat) (s:List S35) (o:List Bool),l.length - i≤f→i≤l.length→s.length=l.length→o.length=l.length→(∀ j,i≤j→at5 s j=at5 l j) →
   (∃ K,((rfall.f K (e.length:Int)).bind fun t=>rfFuse.l4 K x5 ((fuseGo T f s o i).2.map (!·)) t 0 l e r (fuseGo T f s o i).1 E q)=some R)→∃ k,rfFuse.l3 k x4 x5 (o.map (!·)) (i:Int) l e r s E q=some R:=by
 intro f
 induction f with
 | zero =>
  intro i s o hf hi hs ho hrest ⟨K,hK⟩
  refine ⟨K+1,?_⟩
  rw [rfFuse.l3,wnat (by omega),if_neg (by omega)]
  exact hK
 | succ f ih =>
  intro i s o hf hi hs ho hrest ⟨K,hK⟩
  by_cases hlt:i+1 < l.length
  ·have e0:=hrest i (Nat.le_refl _)
   have e1:=hrest (i+1) (by omega)
   have hz:=fz_at e0 e1
   have hls:i+1 < s.length:=by omega
   have h15:=hop i (by omega)
   have next:fz (at5 l i) (at5 l (i+1))=none∨(∃ z,fz (at5 l i) (at5 l (i+1))=some z∧T.getD (i+1) false=true)→∃ k,rfFuse.l3 k x4 x5 (o.map (!·)) ((i+1:Nat):Int) l e r s E q=some R:=by
    intro hn
    refine ih (i+1) s o (by omega) (by omega) hs ho (fun j hj=>hrest j (by omega)) ⟨K,?_⟩
    rcases hn with hn | ⟨z,hn,ht⟩
    ·rw [fuseGo_none hls (by rw [hz];exact hn)] at hK;exact hK
    ·rw [fuseGo_named hls (by rw [hz];exact hn) ht] at hK;exact hK
   have pair:∀ z,fz (at5 l i) (at5 l (i+1))=some z→T.getD (i+1) false=false→∃ k,rfFuse.l3 k x4 x5 ((o.map (!·)).set (i+1) false) ((i+2:Nat):Int) l e r (s.set i z) E q=some R:=by
    intro z hfz ht
    rw [fuseGo_some hls (by rw [hz];exact hfz) ht] at hK
    obtain ⟨k,hk⟩:=ih (i+2) (s.set i z) (o.set (i+1) true) (by omega) (by omega) (by simp [hs]) (by simp [ho]) (fun j hj=>by rw [at5_set (by omega),if_neg (by omega)];exact hrest j (by omega)) ⟨K,hK⟩
    exact ⟨k,by rw [not_set];exact hk⟩
   by_cases h5:(at5 l i).f0=5
   ·by_cases h7:(at5 l (i+1)).f0=7
    ·have hfz:fz (at5 l i) (at5 l (i+1))=some ⟨14,(at5 l i).f1,(at5 l (i+1)).f1,0,0⟩:=by unfold fz;rw [if_pos ⟨h5,h7⟩]
     cases ht:T.getD (i+1) false with
     | true =>
      obtain ⟨k,hk⟩:=next (.inr ⟨_,hfz,ht⟩)
      refine ⟨k+1,?_⟩
      rw [rfFuse.l3,wnat (by omega),if_pos (by omega),if_pos (by omega),if_pos (by omega),if_pos (by omega),rd35,if_pos h5,rd35,if_pos h7,if_pos (by omega),rdT hT hlt,ht,if_pos rfl]
      exact hk
     | false =>
      obtain ⟨k,hk⟩:=pair _ hfz ht
      refine ⟨k+1,?_⟩
      rw [rfFuse.l3,wnat2 (by omega),wnat (by omega),if_pos (by omega),if_pos (by omega),if_pos (by omega),if_pos (by omega),rd35,if_pos h5,rd35,if_pos h7,if_pos (by omega),rdT hT hlt,ht,if_neg (by simp),if_pos (by omega),if_pos (by simp;omega),Int.toNat_natCast,Int.toNat_natCast,h7,show wrap64 (7+7)=14 by unfold wrap64;omega]
      exact hk
    ·by_cases h8:(at5 l (i+1)).f0=8
     ·have hfz:fz (at5 l i) (at5 l (i+1))=some ⟨15,(at5 l i).f1,(at5 l (i+1)).f1,0,0⟩:=by unfold fz;rw [if_neg (by omega),if_pos ⟨h5,h8⟩]
      cases ht:T.getD (i+1) false with
      | true =>
       obtain ⟨k,hk⟩:=next (.inr ⟨_,hfz,ht⟩)
       refine ⟨k+1,?_⟩
       rw [rfFuse.l3,wnat (by omega),if_pos (by omega),if_pos (by omega),if_pos (by omega),if_pos (by omega),rd35,if_pos h5,rd35,if_neg h7,if_pos h8,if_pos (by omega),rdT hT hlt,ht,if_pos rfl]
       exact hk
      | false =>
       obtain ⟨k,hk⟩:=pair _ hfz ht
       refine ⟨k+1,?_⟩
       rw [rfFuse.l3,wnat2 (by omega),wnat (by omega),if_pos (by omega),if_pos (by omega),if_pos (by omega),if_pos (by omega),rd35,if_pos h5,rd35,if_neg h7,if_pos h8,if_pos (by omega),rdT hT hlt,ht,if_neg (by simp),if_pos (by omega),if_pos (by simp;omega),Int.toNat_natCast,Int.toNat_natCast,h8,show wrap64 (8+7)=15 by unfold wrap64;omega]
       exact hk
     ·have hfz:fz (at5 l i) (at5 l (i+1))=none:=by unfold fz;rw [if_neg (by omega),if_neg (by omega),if_neg (by omega)]
      obtain ⟨k,hk⟩:=next (.inl hfz)
      refine ⟨k+1,?_⟩
      rw [rfFuse.l3,wnat (by omega),if_pos (by omega),if_pos (by omega),if_pos (by omega),if_pos (by omega),rd35,if_pos h5,rd35,if_neg h7,if_neg h8]
      exact hk
   ·have hfz:fz (at5 l i) (at5 l (i+1))=none:=by unfold fz;rw [if_neg (by omega),if_neg (by omega),if_neg (by omega)]
    obtain ⟨k,hk⟩:=next (.inl hfz)
    refine ⟨k+1,?_⟩
    rw [rfFuse.l3,wnat (by omega),if_pos (by omega),if_pos (by omega),if_pos (by omega),if_pos (by omega),rd35,if_neg h5]
    exact hk
  ·refine ⟨K+1,?_⟩
   rw [fuseGo_end (by omega)] at hK
   rw [rfFuse.l3,wnat (by omega),if_neg (by omega)]
   exact hK
theorem fl2 (he:e.length≤1048576) (hg:GoodE e) (x4:List Bool) (D E:List S35) (q:List S37) (R:Out3) (hK:∃ K,((rfall.f K (l.length:Int)).bind fun t=>rfFuse.l3 K x4 ((valsAt e e.length).foldl setM (List.replicate (e.length+1) false)) t 0 l e r D E q)=some R):∀ (p i:Nat),i+p=e.length →
  ∃ k,rfFuse.l2 k x4 ((valsAt e i).foldl setM (List.replicate (e.length+1) false)) (i:Int) l e r D E q=some R:=by
 intro p
 induction p with
 | zero =>
  intro i hi
  obtain ⟨K,hK⟩:=hK
  refine ⟨K+1,?_⟩
  rw [rfFuse.l2,if_neg (by omega),show i=e.length by omega]
  exact hK
 | succ p ih =>
  intro i hi
  obtain ⟨k,hk⟩:=ih (i+1) (by omega)
  have hlt:i < e.length:=by omega
  refine ⟨k+1,?_⟩
  rw [rfFuse.l2,if_pos (by omega),if_pos (by omega),rd35,wnat (by omega)]
  by_cases h:(at5 e i).f0=16
  ·obtain ⟨q1,q2⟩:=hg.has i hlt h
   rw [valsAt_some hlt (named_16 h),fold_snoc] at hk
   rw [if_pos h,if_pos (by omega),if_pos (by rw [setMs_len,List.length_replicate];omega)]
   exact hk
  ·have:=hg.op i hlt
   rw [valsAt_none hlt (by unfold namedOff;rw [if_neg (by omega),if_neg (by omega),if_neg (by omega),if_neg h])] at hk
   rw [if_neg h]
   exact hk
theorem fl1 (hr:r.length≤1048576) (hg:GoodD l r) (V:List Int) (x5:List Bool) (D E:List S35) (q:List S37) (R:Out3) (hK:∃ K,rfFuse.l2 K ((V ++ r.map S37.f1).foldl setM (List.replicate (l.length+1) false)) x5 0 l e r D E q=some R):∀ (p i:Nat),i+p=r.length →
  ∃ k,rfFuse.l1 k ((V ++ (r.take i).map S37.f1).foldl setM (List.replicate (l.length+1) false)) x5 (i:Int) l e r D E q=some R:=by
 intro p
 induction p with
 | zero =>
  intro i hi
  obtain ⟨K,hK⟩:=hK
  refine ⟨K+1,?_⟩
  rw [rfFuse.l1,if_neg (by omega),show i=r.length by omega,List.take_length]
  exact hK
 | succ p ih =>
  intro i hi
  obtain ⟨k,hk⟩:=ih (i+1) (by omega)
  have hlt:i < r.length:=by omega
  obtain ⟨q1,q2⟩:=hg.rows r[i] (List.getElem_mem hlt)
  refine ⟨k+1,?_⟩
  rw [List.take_succ_eq_append_getElem hlt,List.map_append,List.map_cons,List.map_nil,← List.append_assoc,fold_snoc] at hk
  rw [rfFuse.l1,if_pos (by omega),if_pos (by omega),rd37,at2_lt hlt,wnat (by omega),if_pos (by omega),if_pos (by rw [setMs_len,List.length_replicate];omega)]
  exact hk
theorem fl0 (hl:l.length≤1048576) (hg:GoodD l r) (x5:List Bool) (D E:List S35) (q:List S37) (R:Out3) (hK:∃ K,rfFuse.l1 K ((valsAt l l.length).foldl setM (List.replicate (l.length+1) false)) x5 0 l e r D E q=some R):∀ (p i:Nat),i+p=l.length →
  ∃ k,rfFuse.l0 k ((valsAt l i).foldl setM (List.replicate (l.length+1) false)) x5 (i:Int) l e r D E q=some R:=by
 intro p
 induction p with
 | zero =>
  intro i hi
  obtain ⟨K,hK⟩:=hK
  refine ⟨K+1,?_⟩
  rw [rfFuse.l0,if_neg (by omega),show i=l.length by omega]
  exact hK
 | succ p ih =>
  intro i hi
  obtain ⟨k,hk⟩:=ih (i+1) (by omega)
  have hlt:i < l.length:=by omega
  refine ⟨k+1,?_⟩
  rw [rfFuse.l0,if_pos (by omega),if_pos (by omega),rd35,wnat (by omega)]
  by_cases h2:(at5 l i).f0=2
  ·obtain ⟨q1,q2⟩:=hg.cas i hlt h2
   rw [valsAt_some hlt (named_2 h2),fold_snoc] at hk
   rw [if_pos h2,if_pos (by omega),if_pos (by rw [setMs_len,List.length_replicate];omega)]
   exact hk
  ·rw [if_neg h2]
   by_cases h3:(at5 l i).f0=3
   ·obtain ⟨q1,q2⟩:=hg.jump i hlt h3
    rw [valsAt_some hlt (named_3 h3),fold_snoc] at hk
    rw [if_pos h3,if_pos (by omega),if_pos (by rw [setMs_len,List.length_replicate];omega)]
    exact hk
   ·rw [if_neg h3]
    by_cases h4:(at5 l i).f0=4
    ·have q:0≤(at5 l i).f1∧(at5 l i).f1 < l.length:=by
      rcases hg.go i hlt h4 with q | q
      ·rw [q];have:=hg.pos;omega
      ·omega
     rw [valsAt_some hlt (named_4 h4),fold_snoc] at hk
     rw [if_pos h4,if_pos q.1,if_pos (by rw [setMs_len,List.length_replicate];omega)]
     exact hk
    ·have:=hg.op i hlt
     rw [valsAt_none hlt (by unfold namedOff;rw [if_neg h3,if_neg h4,if_neg h2,if_neg (by omega)])] at hk
     rw [if_neg h4]
     exact hk
theorem rep_get (n j:Nat):(List.replicate n false).getD j false=false:=by
 rw [List.getD_eq_getElem?_getD,List.getElem?_replicate]
 split <;> rfl
theorem vals_at (l:List S35) (r:List S37):vals l r=valsAt l l.length ++ r.map S37.f1:=by unfold vals valsAt;rw [List.take_length]
theorem fuse_flags {n:Nat} {o:List Bool} (ho:o.length=n):∀ i,i < n→(o.map (!·)).getD i false=!(o.getD i false):=by
 intro i hi
 rw [List.getD_eq_getElem?_getD,List.getD_eq_getElem?_getD,List.getElem?_map,List.getElem?_eq_getElem (by omega)]
 rfl
theorem refFuse (hg:GoodD l r) (hge:GoodE e) (hl:l.length≤1048576) (he:e.length≤1048576) (hr:r.length≤1048576):∃ k,rfFuse.f k l e r=some ((fuseP l r).1,(fuseP e []).1,(fuseP l r).2):=by
 obtain ⟨i0,hF⟩:=fuse_end l r
 obtain ⟨i1,hFE⟩:=fuse_end e []
 obtain ⟨c1,c2,c3,c4,c5⟩:=hF.conds hg
 obtain ⟨d1,d2,d3⟩:=hFE.condsE hge
 have gD:=hF.goodD hg
 have gE:=hFE.goodE hge
 have hw:∃ K,rfwithout.f K (fuseEnd l r).1 (fuseEnd e []).1 r ((fuseEnd l r).2.map (!·)) ((fuseEnd e []).2.map (!·))=some ((fuseP l r).1,(fuseP e []).1,(fuseP l r).2):=by
  have:=refWithout (l:=(fuseEnd l r).1) (e:=(fuseEnd e []).1) (r:=r) (out:=(fuseEnd l r).2) (outE:=(fuseEnd e []).2) (s:=(fuseEnd l r).2.map (!·)) (sE:=(fuseEnd e []).2.map (!·)) (by rw [hF.ls];exact hl) (by rw [hFE.ls];exact he) hr c1 d1
   (fun y hy=>⟨Int.le_of_lt (hg.rows y hy).1,by rw [hF.ls];exact (hg.rows y hy).2⟩) (by simp [d1]) (fuse_flags d1) (fun i hi=>(gE.op i hi).1) d3 (by simp [c1]) (fuse_flags c1) (fun i hi=>(gD.op i hi).2) c4
  rw [rowT_stays c1 (fun y hy=>⟨Int.le_of_lt (hg.rows y hy).1,c5 y hy⟩)] at this
  rw [fuseP_eq l r,fuseP_eq e []]
  exact this
 have x4get:∀ j,j < l.length→((vals l r).foldl setM (List.replicate (l.length+1) false)).getD j false=(targets l r).getD j false:=by
  intro j hj
  rw [setMs_get _ _ _ (fun c hc=>?_),targets_get l r j hj]
  ·rw [rep_get,Bool.false_or]
  ·rw [List.length_replicate]
   unfold vals at hc
   rcases List.mem_append.1 hc with hc | hc
   ·obtain ⟨x,hx,hv⟩:=List.mem_filterMap.1 hc
    obtain ⟨i,hi,rfl⟩:=List.mem_iff_getElem.1 hx
    rw [← at5_lt hi] at hv
    cases hno:namedOff (at5 l i).f0 with
    | none=>rw [hno] at hv;cases hv
    | some j =>
     rw [hno] at hv
     injection hv with hv
     subst hv
     have h15:=hg.op i hi
     unfold namedOff at hno
     split at hno
     ·rename_i h3;injection hno with hno;subst hno
      have:=hg.jump i hi h3
      show 0≤(at5 l i).f1∧(at5 l i).f1 < _;omega
     ·split at hno
      ·rename_i h4;injection hno with hno;subst hno
       show 0≤(at5 l i).f1∧(at5 l i).f1 < _
       rcases hg.go i hi h4 with q | q
       ·rw [q];omega
       ·omega
      ·split at hno
       ·rename_i h2;injection hno with hno;subst hno
        have:=hg.cas i hi h2
        show 0≤(at5 l i).f2∧(at5 l i).f2 < _;omega
       ·split at hno
        ·omega
        ·cases hno
   ·obtain ⟨y,hy,rfl⟩:=List.mem_map.1 hc
    have:=hg.rows y hy
    omega
 have x5get:∀ j,j < e.length→((valsAt e e.length).foldl setM (List.replicate (e.length+1) false)).getD j false=(targets e []).getD j false:=by
  intro j hj
  have hva:valsAt e e.length=vals e []:=by rw [vals_at];simp
  rw [setMs_get _ _ _ (fun c hc=>?_),targets_get e [] j hj,hva]
  ·rw [rep_get,Bool.false_or]
  ·rw [List.length_replicate]
   unfold valsAt at hc
   rw [List.take_length] at hc
   obtain ⟨x,hx,hv⟩:=List.mem_filterMap.1 hc
   obtain ⟨i,hi,rfl⟩:=List.mem_iff_getElem.1 hx
   rw [← at5_lt hi] at hv
   cases hno:namedOff (at5 e i).f0 with
   | none=>rw [hno] at hv;cases hv
   | some j =>
    rw [hno] at hv
    injection hv with hv
    subst hv
    have h16:=hge.op i hi
    unfold namedOff at hno
    rw [if_neg (by omega),if_neg (by omega),if_neg (by omega)] at hno
    split at hno
    ·rename_i hh;injection hno with hno;subst hno
     have:=hge.has i hi hh
     show 0≤(at5 e i).f2∧(at5 e i).f2 < _;omega
    ·cases hno
 have hrep:∀ n,(List.replicate n false).map (!·)=List.replicate n true:=fun n=>by simp
 have h4:∃ k,rfFuse.l4 k ((valsAt e e.length).foldl setM (List.replicate (e.length+1) false)) ((fuseEnd l r).2.map (!·)) (List.replicate e.length true) 0 l e r (fuseEnd l r).1 e r=some ((fuseP l r).1,(fuseP e []).1,(fuseP l r).2):=by
  have:=fl4 (l:=l) (e:=e) (r:=r) he (fun i hi=>(hge.op i hi).1) (targets e []) _ ((fuseEnd l r).2.map (!·)) (by rw [setMs_len,List.length_replicate]) x5get (fuseEnd l r).1 r _ e.length 0 e (List.replicate e.length false) (by omega) (by omega) rfl (by simp) (fun j _=>rfl) hw
  rw [hrep] at this
  exact this
 obtain ⟨k4,h4⟩:=h4
 obtain ⟨ka,ha⟩:=all_ok (n:=e.length) he
 have h3:∃ k,rfFuse.l3 k ((vals l r).foldl setM (List.replicate (l.length+1) false)) ((valsAt e e.length).foldl setM (List.replicate (e.length+1) false)) (List.replicate l.length true) 0 l e r l e r=some ((fuseP l r).1,(fuseP e []).1,(fuseP l r).2):=by
  have:=fl3 (l:=l) (e:=e) (r:=r) hl (fun i hi=>(hg.op i hi).2) (targets l r) _ ((valsAt e e.length).foldl setM (List.replicate (e.length+1) false)) (by rw [setMs_len,List.length_replicate]) x4get e r _ l.length 0 l (List.replicate l.length false) (by omega) (by omega) rfl (by simp) (fun j _=>rfl)
   ⟨max ka k4,by rw [all_up ha (Nat.le_max_left _ _),Option.bind_some];exact f4up h4 (Nat.le_max_right _ _)⟩
  rw [hrep] at this
  exact this
 obtain ⟨k3,h3⟩:=h3
 obtain ⟨kb,hb⟩:=all_ok (n:=l.length) hl
 obtain ⟨k2,h2⟩:=fl2 (l:=l) (r:=r) he hge ((vals l r).foldl setM (List.replicate (l.length+1) false)) l e r ((fuseP l r).1,(fuseP e []).1,(fuseP l r).2) ⟨max kb k3,by rw [all_up hb (Nat.le_max_left _ _),Option.bind_some];exact f3up h3 (Nat.le_max_right _ _)⟩ e.length 0 (by omega)
 obtain ⟨k1,h1⟩:=fl1 (e:=e) hr hg (valsAt l l.length) (List.replicate (e.length+1) false) l e r ((fuseP l r).1,(fuseP e []).1,(fuseP l r).2) ⟨k2,by rw [← vals_at];exact h2⟩ r.length 0 (by omega)
 obtain ⟨k0,h0⟩:=fl0 (e:=e) hl hg (List.replicate (e.length+1) false) l e r ((fuseP l r).1,(fuseP e []).1,(fuseP l r).2) ⟨k1,by simpa using h1⟩ l.length 0 (by omega)
 refine ⟨k0,?_⟩
 unfold rfFuse.f
 rw [isEnum_no hg.pos,Option.bind_some,if_neg (by simp),copied_ok hl he hr,Option.bind_some,wnat (by omega),wnat (by omega),if_pos (by omega),if_pos (by omega),if_pos (by omega),if_pos (by omega),Int.toNat_natCast,Int.toNat_natCast]
 exact h0
end
theorem insRef_len (t d:Int):∀ (L:List S37) (b:Bool),(insRef t d L b).length≤L.length+1:=by
 intro L
 induction L with
 | nil=>intro b;cases b <;> simp [insRef]
 | cons y L ih =>
  intro b
  rw [insRef]
  by_cases hc:y.f0 > t∧(if y.f0=t then true else b)=false
  ·rw [if_pos hc,insRef_true];simp
  ·rw [if_neg hc]
   have:=ih (if y.f0=t then true else b)
   simp only [List.length_cons];omega
section
variable {l e:List S35} {r:List S37}
theorem lt1 (a:Nat) (ha:a < l.length) (hl:l.length≤1048576) (t:Int) (D E:List S35) (rows:List S37) (hr:rows.length≤1048577) (R:List S35 × List S35 × List S37) :
  ∀ (p j:Nat) (acc:List S37) (done:Bool),j+p=rows.length→acc.length≤j+(if done=true then 1 else 0)→(∃ K,rfTables.l0 K (at5 l a).f2 l e r D E (acc ++ insRef t ((a:Int)+1) (rows.drop j) done)=some R) →
   ∃ k,rfTables.l1 k (a:Int) t acc done (j:Int) l e r D E rows=some R:=by
 intro p
 induction p with
 | zero =>
  intro j acc done hj hacc ⟨K,hK⟩
  refine ⟨K+1,?_⟩
  rw [List.drop_of_length_le (by omega)] at hK
  rw [rfTables.l1,if_neg (by omega),rd35]
  have hacc2:acc.length≤j+1:=by split at hacc <;> omega
  cases done with
  | true =>
   rw [if_pos rfl,if_pos (by omega),if_pos (by omega)]
   rw [insRef,if_pos rfl,List.append_nil] at hK
   exact hK
  | false =>
   rw [if_neg (by simp),if_pos (by omega),if_pos (by omega),if_pos (by omega),wnat (by omega)]
   rw [insRef,if_neg (by simp)] at hK
   exact hK
 | succ p ih =>
  intro j acc done hj hacc ⟨K,hK⟩
  have hlt:j < rows.length:=by omega
  have hat:at2 rows j=rows[j]:=at2_lt hlt
  have hacc2:acc.length≤j+1:=by split at hacc <;> omega
  rw [List.drop_eq_getElem_cons hlt,← hat,insRef] at hK
  by_cases h1:(at2 rows j).f0=t
  ·rw [if_pos h1,if_neg (by simp)] at hK
   obtain ⟨k,hk⟩:=ih (j+1) (acc ++ [at2 rows j]) true (by omega) (by rw [List.length_append];simp only [List.length_cons,List.length_nil];first | (split at hacc <;> simp <;> omega) | (simp at hacc ⊢;omega)) ⟨K,by rw [List.append_assoc];exact hK⟩
   refine ⟨k+1,?_⟩
   rw [rfTables.l1,if_pos (by omega),if_pos (by omega),rd37,if_pos h1,if_neg (by omega),if_pos (by omega),wnat (by omega)]
   exact hk
  ·rw [if_neg h1] at hK
   by_cases h2:(at2 rows j).f0 > t
   ·cases done with
    | true =>
     rw [if_neg (by simp)] at hK
     obtain ⟨k,hk⟩:=ih (j+1) (acc ++ [at2 rows j]) true (by omega) (by rw [List.length_append];simp only [List.length_cons,List.length_nil];first | (split at hacc <;> simp <;> omega) | (simp at hacc ⊢;omega)) ⟨K,by rw [List.append_assoc];exact hK⟩
     refine ⟨k+1,?_⟩
     rw [rfTables.l1,if_pos (by omega),if_pos (by omega),rd37,if_neg h1,if_pos h2,if_pos rfl,if_pos (by omega),wnat (by omega)]
     exact hk
    | false =>
     rw [if_pos ⟨h2,rfl⟩] at hK
     simp only [Bool.false_eq_true,if_false,Nat.add_zero] at hacc
     obtain ⟨k,hk⟩:=ih (j+1) (acc ++ [⟨t,(a:Int)+1⟩] ++ [at2 rows j]) true (by omega) (by simp;omega) ⟨K,by rw [List.append_assoc,List.append_assoc];exact hK⟩
     refine ⟨k+1,?_⟩
     rw [rfTables.l1,if_pos (by omega),if_pos (by omega),rd37,if_neg h1,if_pos h2,if_neg (by simp),if_pos (by omega),Option.bind_some,if_pos (by simp;omega),wnat (by omega),wnat (by omega)]
     exact hk
   ·rw [if_neg (fun q=>h2 q.1)] at hK
    obtain ⟨k,hk⟩:=ih (j+1) (acc ++ [at2 rows j]) done (by omega) (by rw [List.length_append];simp only [List.length_cons,List.length_nil];first | (split at hacc <;> simp <;> omega) | (simp at hacc ⊢;omega)) ⟨K,by rw [List.append_assoc];exact hK⟩
    refine ⟨k+1,?_⟩
    rw [rfTables.l1,if_pos (by omega),if_pos (by omega),rd37,if_neg h1,if_neg h2,if_pos (by omega),wnat (by omega)]
    exact hk
theorem lt0 (hg:GoodD l r) (hl:l.length≤1048576) (D E:List S35) (hD:1 < D.length):∀ (f a:Nat) (rows:List S37),a < l.length→l.length - a≤f→rows.length+(l.length - a)≤1048577 →
  ∃ k,rfTables.l0 k (a:Int) l e r D E rows=some (D.set 1 ⟨3,((tabRef l f rows a).2:Int),0,0,0⟩,E,(tabRef l f rows a).1):=by
 intro f
 induction f with
 | zero=>intro a rows ha hf;omega
 | succ f ih =>
  intro a rows ha hf hr
  by_cases h2:(at5 l a).f0=2
  ·obtain ⟨q1,q2⟩:=hg.cas a ha h2
   obtain ⟨d,hd⟩:∃ d:Nat,(at5 l a).f2=(d:Int):=⟨(at5 l a).f2.toNat,by omega⟩
   have hdn:(at5 l a).f2.toNat=d:=by omega
   rw [hd] at q1 q2
   have hlen:=insRef_len (at5 l a).f1 ((a:Int)+1) rows false
   obtain ⟨k,hk⟩:=ih d (insRef (at5 l a).f1 ((a:Int)+1) rows false) (by omega) (by omega) (by omega)
   obtain ⟨k1,hk1⟩:=lt1 (l:=l) (e:=e) (r:=r) a ha hl (at5 l a).f1 D E rows (by omega) (D.set 1 ⟨3,((tabRef l f (insRef (at5 l a).f1 ((a:Int)+1) rows false) d).2:Int),0,0,0⟩,E,(tabRef l f (insRef (at5 l a).f1 ((a:Int)+1) rows false) d).1) rows.length 0 [] false (by omega) (by simp) ⟨k,by rw [hd];exact hk⟩
   refine ⟨k1+1,?_⟩
   rw [rfTables.l0,if_pos (by omega),if_pos (by omega),rd35,if_pos h2,tabRef,if_pos h2,hdn]
   exact hk1
  ·refine ⟨1,?_⟩
   rw [rfTables.l0,if_pos (by omega),if_pos (by omega),rd35,if_neg h2,if_pos (by omega),tabRef,if_neg h2]
   rfl
theorem refTables (hg:GoodD l r) (hl:l.length≤1048576) (he:e.length≤1048576) (hr:r.length≤1048576):∃ k,rfTables.f k l e r=some ((tabP l r).1,e,(tabP l r).2):=by
 rw [← tabP_ref hg]
 unfold tabRefP rfTables.f
 simp only [copied_ok hl he hr,Option.bind_some]
 by_cases h1:0 < r.length
 ·refine ⟨1,?_⟩
  rw [if_pos (by omega),if_pos (.inl h1),rfTables.j0,if_pos rfl]
 ·by_cases h2:l.length < 2
  ·refine ⟨1,?_⟩
   rw [if_neg (by omega),if_pos (by omega),if_pos (.inr (.inl h2)),rfTables.j0,if_pos rfl]
  ·have hr0:r=[]:=List.eq_nil_of_length_eq_zero (by omega)
   by_cases h3:(at5 l 1).f0=2
   ·obtain ⟨k,hk⟩:=lt0 (e:=e) hg hl l e (by omega) l.length 1 r (by omega) (by omega) (by omega)
    refine ⟨k+1,?_⟩
    rw [if_neg (by omega),if_neg (by omega),if_pos (by omega),if_neg (by omega),rfTables.j0,show (1:Int)=((1:Nat):Int) from rfl,rd35,if_neg (by simp [h3]),hk,hr0]
   ·refine ⟨1,?_⟩
    rw [if_neg (by omega),if_neg (by omega),if_pos (by omega),if_pos (.inr (.inr h3)),rfTables.j0,show (1:Int)=((1:Nat):Int) from rfl,rd35,if_pos (by simp [h3])]
end
end Go.Proofs.Ytedghbjmhcgilaa.A
end
