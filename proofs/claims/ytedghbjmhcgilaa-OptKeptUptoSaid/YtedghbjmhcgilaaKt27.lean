import Derived.Test.YtedghbjmhcgilaaKt10
import Derived.Test.YtedghbjmhcgilaaKt14
import Derived.Test.YtedghbjmhcgilaaKt16
import Derived.Test.YtedghbjmhcgilaaKt19
section
namespace Go.Proofs.Ytedghbjmhcgilaa.A
open Go.RowKit Go.Proofs.YtedghbjmhcgilaaW.PrintWords Go.Proofs.YtedghbjmhcgilaaW.PrintLast Go.Proofs.YtedghbjmhcgilaaW.PrintMore
open Go.Proofs.Ytedghbjmhcgilaa.POpt
set_option linter.unusedVariables false
set_option linter.unusedSimpArgs false
def unm (x : List Bool) : Nat := (x.filter (!·)).length
theorem unm_set {x : List Bool} {i : Nat} (hi : i < x.length) (h : x.getD i false = false) : unm (x.set i true) + 1 = unm x := by
  have hx : x = x.take i ++ x[i] :: x.drop (i + 1) := by rw [← List.drop_eq_getElem_cons hi, List.take_append_drop]
  have hb : x[i] = false := by simpa [List.getD, hi] using h
  have hs : x.set i true = x.take i ++ true :: x.drop (i + 1) := by
    conv => lhs; rw [hx]
    rw [List.set_append_right _ _ (by simp; omega)]
    rw [show i - (x.take i).length = 0 by simp; omega]
    rfl
  rw [hs]
  unfold unm
  conv => rhs; rw [hx]
  rw [hb]
  simp only [List.filter_append, List.length_append, List.filter_cons]
  simp
  omega
theorem unm_le (x : List Bool) : unm x ≤ x.length := List.length_filter_le _ _
theorem w64 {x : Int} (h : -9223372036854775808 ≤ x ∧ x ≤ 9223372036854775807) : wrap64 x = x := by unfold wrap64; omega
section
variable (l0 : List S35) (l1 : List S37)
theorem reached_rows (x6 : List Int) (hm : l1.length < 17592186044416) (x5 : List Bool) (r : List Bool)
    (hk : ∃ k, opt_reached.l0 k l0 l1 x5 (x6 ++ l1.map S37.f1) = some r) (hl : x6.length + l1.length < 17592186044416) (d : Nat) : ∀ i, i + d = l1.length →
    ∃ k, opt_reached.l1 k l0 l1 x5 (x6 ++ (l1.take i).map S37.f1) l1 (l1.length : Int) (i : Int) = some r := by
  induction d with
  | zero =>
    intro i hi
    obtain ⟨k, hk⟩ := hk
    obtain rfl : i = l1.length := by omega
    refine ⟨k + 1, ?_⟩
    rw [opt_reached.l1, if_neg (by omega), List.take_length]
    exact hk
  | succ d ih =>
    intro i hi
    obtain ⟨k, hk'⟩ := ih (i + 1) (by omega)
    refine ⟨k + 1, ?_⟩
    have hil : i < l1.length := by omega
    rw [opt_reached.l1, if_pos (by omega), if_pos (by omega), if_pos (by omega), if_pos (by simp; omega)]
    rw [w64 (by omega)]
    have e : rd_T37 l1 (i : Int) = l1[i] := by simp [rd_T37, hil]
    rw [e]
    rw [List.take_succ_eq_append_getElem hil, List.map_append, ← List.append_assoc] at hk'
    exact hk'
theorem reached_go (hb : l0.length * (l1.length + 3) < 8796093022208) (hm : l1.length < 8796093022208) (hn : l0.length < 8796093022208) (p : Nat) : ∀ (x5 : List Bool) (x6 : List Int), x5.length = l0.length → unm x5 * (l1.length + 3) + x6.length ≤ p → unm x5 * (l1.length + 3) + x6.length ≤ l0.length * (l1.length + 3) + 1 →
    ∃ k r, opt_reached.l0 k l0 l1 x5 x6 = some r ∧ r.length = l0.length := by
  induction p with
  | zero =>
    intro x5 x6 h5 hp _
    refine ⟨1, x5, ?_, h5⟩
    have : x6.length = 0 := by omega
    rw [opt_reached.l0, if_neg (by omega)]
  | succ p ih =>
    intro x5 x6 h5 hp hle
    by_cases h6 : 0 < x6.length
    · have hu := unm_le x5
      have e1 : wrap64 ((x6.length : Int) - 1) = (x6.length : Int) - 1 := w64 (by omega)
      have e2 : ((x6.length : Int) - 1).toNat = x6.length - 1 := by omega
      have hyl : (x6.take (x6.length - 1)).length = x6.length - 1 := by simp
      generalize hy : x6.take (x6.length - 1) = y at hyl
      obtain ⟨a, ha⟩ : ∃ a, rd x6 ((x6.length : Int) - 1) = a := ⟨_, rfl⟩
      have skip : (∃ k r, opt_reached.j1 k l0 l1 x5 y a true = some r ∧ r.length = l0.length) := by
        obtain ⟨k, r, hk, hr⟩ := ih x5 y h5 (by omega) (by omega)
        exact ⟨k + 1, r, by rw [opt_reached.j1, if_pos rfl]; exact hk, hr⟩
      have open0 : ∀ k, opt_reached.l0 (k + 1) l0 l1 x5 x6 = (if a < 0 then opt_reached.j1 k l0 l1 x5 y a true else if a ≥ (l0.length : Int) then opt_reached.j1 k l0 l1 x5 y a true else if 0 ≤ a then (if a < (x5.length : Int) then opt_reached.j1 k l0 l1 x5 y a (rdOf false x5 a) else none) else none) := by
        intro k
        rw [opt_reached.l0, if_pos (by omega), e1, if_pos (by omega), if_pos (by omega), if_pos (by omega), e2, hy, ha]
        rfl
      by_cases h1 : a < 0
      · obtain ⟨k, r, hk, hr⟩ := skip
        exact ⟨k + 1, r, by rw [open0, if_pos h1]; exact hk, hr⟩
      by_cases h2 : a ≥ (l0.length : Int)
      · obtain ⟨k, r, hk, hr⟩ := skip
        exact ⟨k + 1, r, by rw [open0, if_neg h1, if_pos h2]; exact hk, hr⟩
      have open1 : ∀ k, opt_reached.l0 (k + 1) l0 l1 x5 x6 = opt_reached.j1 k l0 l1 x5 y a (rdOf false x5 a) := by
        intro k
        rw [open0, if_neg h1, if_neg h2, if_pos (by omega), if_pos (by omega)]
      cases hmk : rdOf false x5 a with
      | true =>
        obtain ⟨k, r, hk, hr⟩ := skip
        exact ⟨k + 1, r, by rw [open1, hmk]; exact hk, hr⟩
      | false =>
        have hai : a.toNat < x5.length := by omega
        have hus := unm_set hai (by simpa [rdOf] using hmk)
        have h5' : (x5.set a.toNat true).length = l0.length := by simp; exact h5
        have hmul : unm (x5.set a.toNat true) * (l1.length + 3) + (l1.length + 3) = unm x5 * (l1.length + 3) := by rw [← hus, Nat.add_mul, Nat.one_mul]
        have next : ∀ z : List Int, z.length ≤ y.length + l1.length + 2 → ∃ k r, opt_reached.l0 k l0 l1 (x5.set a.toNat true) z = some r ∧ r.length = l0.length := fun z hz => ih _ z h5' (by omega) (by omega)
        have hyb : y.length < 17592186044416 - l1.length - 4 := by omega
        suffices ∃ k r, opt_reached.j1 k l0 l1 x5 y a false = some r ∧ r.length = l0.length by
          obtain ⟨k, r, hk, hr⟩ := this
          exact ⟨k + 1, r, by rw [open1, hmk]; exact hk, hr⟩
        have openj : ∀ k, opt_reached.j1 (k + 1) l0 l1 x5 y a false = (if (rd_T35 l0 a).f0 = 4 then (if y.length < 17592186044416 then opt_reached.l0 k l0 l1 (x5.set a.toNat true) (y ++ [(rd_T35 l0 a).f1]) else none) else if (rd_T35 l0 a).f0 = 3 then (if y.length < 17592186044416 then opt_reached.l1 k l0 l1 (x5.set a.toNat true) (y ++ [(rd_T35 l0 a).f1]) l1 (l1.length : Int) 0 else none) else if (rd_T35 l0 a).f0 = 2 then opt_reached.j3 k l0 l1 (x5.set a.toNat true) y a (rd_T35 l0 a).f0 ((rd_T35 l0 a).f0 == 2) (rd_T35 l0 a).f0 (rd_T35 l0 a).f1 (rd_T35 l0 a).f2 (rd_T35 l0 a).f3 (rd_T35 l0 a).f4 else opt_reached.j3 k l0 l1 (x5.set a.toNat true) y a (rd_T35 l0 a).f0 ((rd_T35 l0 a).f0 == 16) (rd_T35 l0 a).f0 (rd_T35 l0 a).f1 (rd_T35 l0 a).f2 (rd_T35 l0 a).f3 (rd_T35 l0 a).f4) := by
          intro k
          rw [opt_reached.j1, if_neg (by decide), if_pos (by omega), if_pos (by omega)]
          simp only [Option.bind_some]
          rw [if_pos (by omega)]
        have j3 : ∀ b : Bool, ∃ k r, opt_reached.j3 k l0 l1 (x5.set a.toNat true) y a (rd_T35 l0 a).f0 b (rd_T35 l0 a).f0 (rd_T35 l0 a).f1 (rd_T35 l0 a).f2 (rd_T35 l0 a).f3 (rd_T35 l0 a).f4 = some r ∧ r.length = l0.length := by
          intro b
          cases b with
          | true =>
            obtain ⟨k, r, hk, hr⟩ := next (y ++ [wrap64 (a + 1), (rd_T35 l0 a).f2]) (by simp <;> omega)
            refine ⟨k + 1, r, ?_, hr⟩
            rw [opt_reached.j3, if_pos rfl]
            simp only [Option.bind_some]
            rw [if_pos (by simp; omega)]
            exact hk
          | false =>
            by_cases h24 : (rd_T35 l0 a).f0 = 24
            · obtain ⟨k, r, hk, hr⟩ := next y (by omega)
              exact ⟨k + 1, r, by rw [opt_reached.j3, if_neg (by decide), if_pos h24]; exact hk, hr⟩
            · obtain ⟨k, r, hk, hr⟩ := next (y ++ [wrap64 (a + 1)]) (by simp; omega)
              exact ⟨k + 1, r, by rw [opt_reached.j3, if_neg (by decide), if_neg h24, if_pos (by omega)]; exact hk, hr⟩
        by_cases h4 : (rd_T35 l0 a).f0 = 4
        · obtain ⟨k, r, hk, hr⟩ := next (y ++ [(rd_T35 l0 a).f1]) (by simp; omega)
          exact ⟨k + 1, r, by rw [openj, if_pos h4, if_pos (by omega)]; exact hk, hr⟩
        by_cases h3 : (rd_T35 l0 a).f0 = 3
        · obtain ⟨k, r, hk, hr⟩ := next ((y ++ [(rd_T35 l0 a).f1]) ++ l1.map S37.f1) (by simp; omega)
          obtain ⟨k', hk'⟩ := reached_rows l0 l1 (y ++ [(rd_T35 l0 a).f1]) (by omega) _ r ⟨k, hk⟩ (by simp; omega) l1.length 0 (by omega)
          simp only [List.take_zero, List.map_nil, List.append_nil] at hk'
          exact ⟨k' + 1, r, by rw [openj, if_neg h4, if_pos h3, if_pos (by omega)]; exact hk', hr⟩
        by_cases h2' : (rd_T35 l0 a).f0 = 2
        · obtain ⟨k, r, hk, hr⟩ := j3 ((rd_T35 l0 a).f0 == 2)
          exact ⟨k + 1, r, by rw [openj, if_neg h4, if_neg h3, if_pos h2']; exact hk, hr⟩
        · obtain ⟨k, r, hk, hr⟩ := j3 ((rd_T35 l0 a).f0 == 16)
          exact ⟨k + 1, r, by rw [openj, if_neg h4, if_neg h3, if_neg h2']; exact hk, hr⟩
    · refine ⟨1, x5, ?_, h5⟩
      rw [opt_reached.l0, if_neg (by omega)]
theorem reached_total (hb : l0.length * (l1.length + 3) < 8796093022208) (hm : l1.length < 8796093022208) (hn : l0.length < 8796093022208) : ∃ k r, opt_reached.f k l0 l1 = some r ∧ r.length = l0.length := by
  have hu := unm_le (List.replicate l0.length false)
  rw [List.length_replicate] at hu
  have hmul := Nat.mul_le_mul_right (l1.length + 3) hu
  obtain ⟨k, r, hk, hr⟩ := reached_go l0 l1 hb hm hn _ (List.replicate l0.length false) [0] (by simp) (Nat.le_refl _) (by simp only [List.length_cons, List.length_nil]; omega)
  refine ⟨k, r, ?_, hr⟩
  unfold opt_reached.f
  rw [if_pos (by omega), if_pos (by omega)]
  simpa using hk
end
end Go.Proofs.Ytedghbjmhcgilaa.A
end
section
namespace Go.Proofs.Ytedghbjmhcgilaa.A
open Go.RowKit Go.Proofs.YtedghbjmhcgilaaW.PrintWords Go.Proofs.YtedghbjmhcgilaaW.PrintLast Go.Proofs.YtedghbjmhcgilaaW.PrintMore
open Go.Proofs.Ytedghbjmhcgilaa.POpt
set_option linter.unusedVariables false
set_option linter.unusedSimpArgs false
structure PB (b : List S35 × List S35 × List S37) : Prop where
  n0 : b.1.length ≤ 1048576
  n1 : b.2.1.length ≤ 1048576
  n2 : b.2.2.length ≤ 1048576
  w0 : ∀ x ∈ b.1, wfS x
  w1 : ∀ x ∈ b.2.1, wfS x
  w2 : ∀ y ∈ b.2.2, wfI y.f1
theorem PB.ok {b : List S35 × List S35 × List S37} (h : PB b) : okB b.1 b.2.1 b.2.2 = true := by
  have n0 := h.n0; have n1 := h.n1; have n2 := h.n2
  refine okB_iff.2 ⟨fitB_iff.2 ⟨by omega, by omega, by omega⟩, fun x hx => ⟨wfIB_iff.2 (wf_in (h.w0 x hx).1), wfIB_iff.2 (wf_in (h.w0 x hx).2)⟩, fun x hx => ⟨wfIB_iff.2 (wf_in (h.w1 x hx).1), wfIB_iff.2 (wf_in (h.w1 x hx).2)⟩, fun x hx => wfIB_iff.2 (wf_in (h.w2 x hx))⟩
theorem wfI_nat {n : Nat} (h : n ≤ 9223372036854775807) : wfI (n : Int) := wf64 (by omega)
theorem addTag_len (R : List S37) (t : Int) (a : Nat) : (addTag R t a).length ≤ R.length + 1 := by
  unfold addTag; split <;> simp
theorem tabGo_len (l0 : List S35) : ∀ (f : Nat) (R : List S37) (a : Nat), (tabGo l0 f R a).1.length ≤ R.length + f := by
  intro f
  induction f with
  | zero => intro R a; simp [tabGo]
  | succ f ih =>
    intro R a
    rw [tabGo]
    have h1 := addTag_len R (l0.getD a z35).f1 a
    split
    · split
      · simp only; omega
      · have := ih (addTag R (l0.getD a z35).f1 a) (l0.getD a z35).f2.toNat; omega
    · simp only; omega
theorem tabGo_wf {l0 : List S35} (hw : ∀ x ∈ l0, wfS x) (hn : l0.length ≤ 1048576) : ∀ (f : Nat) (R : List S37) (a : Nat), (∀ y ∈ R, wfI y.f1) → a ≤ 9223372036854775807 → (∀ y ∈ (tabGo l0 f R a).1, wfI y.f1) ∧ (tabGo l0 f R a).2 ≤ 9223372036854775807 := by
  intro f
  induction f with
  | zero => intro R a hR ha; exact ⟨hR, ha⟩
  | succ f ih =>
    intro R a hR ha
    rw [tabGo]
    split
    · next hc =>
      have hA : ∀ y ∈ addTag R (l0.getD a z35).f1 a, wfI y.f1 := by
        intro y hy
        unfold addTag at hy
        split at hy
        · exact hR y hy
        · rcases List.mem_append.1 hy with hy | hy
          · exact hR y hy
          · rw [List.mem_singleton.1 hy]; exact wf64 (by show _ ≤ (a : Int) + 1 ∧ (a : Int) + 1 ≤ _; omega)
      split
      · exact ⟨hA, ha⟩
      · have h2 : wfI (l0.getD a z35).f2 := by
          rw [List.getD_eq_getElem?_getD, List.getElem?_eq_getElem hc.1]; exact (hw _ (List.getElem_mem hc.1)).2
        have := wf_in h2
        exact ih _ _ hA (by omega)
    · exact ⟨hR, ha⟩
theorem mem_sort {R : List S37} {x : S37} : x ∈ sortRows R ↔ x ∈ R := by unfold sortRows; exact List.mem_mergeSort
theorem PB.tables {b : List S35 × List S35 × List S37} (h : PB b) : PB ((tabP b.1 b.2.2).1, b.2.1, (tabP b.1 b.2.2).2) := by
  unfold tabP
  split
  · exact ⟨h.n0, h.n1, h.n2, h.w0, h.w1, h.w2⟩
  · have hw := tabGo_wf h.w0 h.n0 b.1.length [] 1 (fun y hy => by simp at hy) (by omega)
    have hl := tabGo_len b.1 b.1.length [] 1
    have n0 := h.n0
    refine ⟨by simp only [List.length_set]; exact h.n0, h.n1, by simp only [sortRows_len]; simp at hl; omega, fun x hx => ?_, h.w1, fun y hy => hw.1 y (mem_sort.1 hy)⟩
    rcases List.mem_or_eq_of_mem_set hx with hx | hx
    · exact h.w0 x hx
    · subst hx; exact ⟨wfI_nat hw.2, rfl⟩
theorem placed_wf {φ : Int → Int → Int} (hφ : ∀ p c, wfI c → wfI (φ p c)) {x : S35} (h : wfS x) : wfS (placed φ x) := by
  unfold placed
  split
  · next j hj =>
    rcases namedOff_12 hj with rfl | rfl
    · exact ⟨hφ _ _ h.1, h.2⟩
    · exact ⟨h.1, hφ _ _ h.2⟩
  · exact h
theorem kept_wf {l : List S35} {out : List Bool} {i : Nat} {φ : Int → Int → Int} (hφ : ∀ p c, wfI c → wfI (φ p c)) (h : ∀ x ∈ l, wfS x) : ∀ x ∈ (keptAt l out i).map (placed φ), wfS x := by
  intro x hx
  obtain ⟨y, hy, rfl⟩ := List.mem_map.1 hx
  exact placed_wf hφ (h y (keptAt_mem hy))
theorem rows_wf {l : List S37} {φ : Int → Int → Int} (hφ : ∀ p c, wfI c → wfI (φ p c)) (h : ∀ y ∈ l, wfI y.f1) : ∀ y ∈ l.map (placedR φ), wfI y.f1 := by
  intro x hx
  obtain ⟨y, hy, rfl⟩ := List.mem_map.1 hx
  exact hφ _ _ (h y hy)
theorem wfS_at {L : List S35} (h : ∀ x ∈ L, wfS x) (i : Nat) : wfS (L.getD i z35) := by
  rw [List.getD_eq_getElem?_getD]
  cases hx : L[i]? with
  | none => exact wfS_z
  | some y => exact h y (List.mem_of_getElem? hx)
theorem fuseGo_wf (T : List Bool) : ∀ (f : Nat) (s : List S35) (o : List Bool) (i : Nat), (∀ x ∈ s, wfS x) → (∀ x ∈ (fuseGo T f s o i).1, wfS x) ∧ (fuseGo T f s o i).1.length = s.length ∧ (fuseGo T f s o i).2.length = o.length := by
  intro f
  induction f with
  | zero => intro s o i h; exact ⟨h, rfl, rfl⟩
  | succ f ih =>
    intro s o i h
    rw [fuseGo]
    split
    · split
      · next z hz =>
        split
        · have := ih (s.set i z) (o.set (i + 1) true) (i + 2) (fun x hx => by
            rcases List.mem_or_eq_of_mem_set hx with hx | hx
            · exact h x hx
            · subst hx; exact fz_wf (wfS_at h _) (wfS_at h _) hz)
          simpa using this
        · exact ih _ _ _ h
      · exact ih _ _ _ h
    · exact ⟨h, rfl, rfl⟩
theorem fuse_pb {l0 : List S35} {l2 : List S37} (hn : l0.length ≤ 1048576) (h : ∀ x ∈ l0, wfS x) (h2 : ∀ y ∈ l2, wfI y.f1) : (fuseP l0 l2).1.length ≤ l0.length ∧ (fuseP l0 l2).2.length = l2.length ∧ (∀ x ∈ (fuseP l0 l2).1, wfS x) ∧ (∀ y ∈ (fuseP l0 l2).2, wfI y.f1) := by
  obtain ⟨a1, a2, a3⟩ := fuseGo_wf (targets l0 l2) l0.length l0 (List.replicate l0.length false) 0 h
  rw [List.length_replicate] at a3
  have hφ : ∀ p c, wfI c → wfI (toNow (fuseEnd l0 l2).2 l0.length p c) := fun p c hc => toNow_wf (by omega) a3 p c hc
  unfold fuseP
  refine ⟨?_, by simp, kept_wf hφ a1, rows_wf hφ h2⟩
  rw [List.length_map]
  exact keptAt_le _ _ _
theorem PB.fuse {b : List S35 × List S35 × List S37} (h : PB b) : PB ((fuseP b.1 b.2.2).1, (fuseP b.2.1 []).1, (fuseP b.1 b.2.2).2) := by
  obtain ⟨a1, a2, a3, a4⟩ := fuse_pb h.n0 h.w0 h.w2
  obtain ⟨b1, b2, b3, b4⟩ := fuse_pb (l2 := []) h.n1 h.w1 (fun y hy => by simp at hy)
  exact ⟨Nat.le_trans a1 h.n0, Nat.le_trans b1 h.n1, by show (fuseP b.1 b.2.2).2.length ≤ _; rw [a2]; exact h.n2, a3, b3, a4⟩
theorem it_wf {old : List S35} (h : ∀ x ∈ old, wfS x) (op : Int) : ∀ (k : Nat) (c : Int), wfI c → wfI (it old op k c) := by
  intro k
  induction k with
  | zero => intro c hc; exact hc
  | succ k ih =>
    intro c hc
    rw [it]
    cases hv : hop old op (it old op k c) with
    | none => exact ih c hc
    | some v =>
      rw [Option.getD_some]
      unfold hop at hv
      repeat (split at hv; · cases hv)
      injection hv with hv
      subst hv
      unfold rd_T35
      exact (wfS_at h _).1
theorem PB.thread {b : List S35 × List S35 × List S37} (h : PB b) : PB (b.1.map (placed (thr b.1)), b.2.1, b.2.2.map (placedR (thr b.1))) := by
  have hφ : ∀ p c, wfI c → wfI (thr b.1 p c) := fun p c hc => it_wf h.w0 p _ c hc
  refine ⟨by show (b.1.map _).length ≤ _; rw [List.length_map]; exact h.n0, h.n1, by show (b.2.2.map _).length ≤ _; rw [List.length_map]; exact h.n2, fun x hx => ?_, h.w1, rows_wf hφ h.w2⟩
  obtain ⟨y, hy, rfl⟩ := List.mem_map.1 hx
  exact placed_wf hφ (h.w0 y hy)
theorem trim_pb {r : List Bool} {l0 : List S35} {l2 : List S37} : (trimP r l0 l2).1.length ≤ l0.length ∧ (trimRows r l0 l2).length ≤ l2.length := by
  refine ⟨?_, ?_⟩
  · unfold trimP; rw [List.length_map]; exact keptAt_le _ _ _
  · unfold trimRows
    split
    · simp [trimP]
    · simp
theorem reached_up {k m : Nat} {l0 : List S35} {l1 : List S37} {r : List Bool} (h : opt_reached.f k l0 l1 = some r) (hle : k ≤ m) : opt_reached.f m l0 l1 = some r := by
  induction m with
  | zero => have : k = 0 := by omega
            subst this; exact h
  | succ m ih =>
    by_cases e : k = m + 1
    · subst e; exact h
    · exact opt_reached.mono _ _ _ r (ih (by omega))
theorem trimF_some {b : List S35 × List S35 × List S37} (h : PB b) : ∃ k r, TrimF k b.1 b.2.1 b.2.2 = some r ∧ r.1.length ≤ b.1.length ∧ r.2.1.length ≤ b.2.1.length ∧ r.2.2.length ≤ b.2.2.length := by
  have n0 := h.n0; have n1 := h.n1; have n2 := h.n2
  have hm : b.1.length * (b.2.2.length + 3) ≤ 1048576 * 1048579 := Nat.mul_le_mul n0 (by omega)
  have hm1 : b.2.1.length * (([] : List S37).length + 3) ≤ 1048576 * 3 := Nat.mul_le_mul n1 (by simp)
  obtain ⟨k0, r0, a0, e0⟩ := reached_total (l0 := b.1) (l1 := b.2.2) (by omega) (by omega) (by omega)
  obtain ⟨k1, r1, a1, e1⟩ := reached_total (l0 := b.2.1) (l1 := []) (by omega) (by simp) (by omega)
  unfold TrimF
  by_cases he : b.1.length = 0 ∧ b.2.1.length = 0
  · exact ⟨0, b, by rw [if_pos h.ok, if_pos he], Nat.le_refl _, Nat.le_refl _, Nat.le_refl _⟩
  · refine ⟨k0 + k1, ((trimP r0 b.1 b.2.2).1, (trimP r1 b.2.1 []).1, trimRows r0 b.1 b.2.2), ?_, (trim_pb (l2 := b.2.2)).1, (trim_pb (l2 := [])).1, trim_pb.2⟩
    rw [if_pos h.ok, if_neg he, reached_up a0 (by omega)]
    simp only [Option.bind_some]
    rw [reached_up a1 (by omega)]
    simp only [Option.bind_some]
    rw [if_pos ⟨e0, e1⟩]
theorem passes_some {b : List S35 × List S35 × List S37} (h : PB b) (ht : tagB b.1 = true) :
    ∃ (rT rF rH rM rB : List S35 × List S35 × List S37) (kt kb : Nat), TablesF b.1 b.2.1 b.2.2 = some rT ∧ FuseF b.1 b.2.1 b.2.2 = some rF ∧ ThreadF b.1 b.2.1 b.2.2 = some rH ∧ TrimF kt b.1 b.2.1 b.2.2 = some rM ∧ BlockF kb b.1 b.2.1 b.2.2 = some rB ∧
      ∀ r, r = rT ∨ r = rF ∨ r = rH ∨ r = rM ∨ r = rB → r.1.length ≤ 2097152 ∧ r.2.1.length ≤ 2097152 ∧ r.2.2.length ≤ 2097152 := by
  have sm : ∀ r : List S35 × List S35 × List S37, PB r → r.1.length ≤ 2097152 ∧ r.2.1.length ≤ 2097152 ∧ r.2.2.length ≤ 2097152 := fun r h => ⟨Nat.le_trans h.n0 (by omega), Nat.le_trans h.n1 (by omega), Nat.le_trans h.n2 (by omega)⟩
  obtain ⟨kt, rM, hM, m0, m1, m2⟩ := trimF_some h
  have h1 := h.tables
  have h2 := h1.fuse
  have h3 := h2.thread
  obtain ⟨kb, rB, hB, b0, b1, b2⟩ := trimF_some h3
  have s0 := sm _ h
  have s3 := sm _ h3
  refine ⟨_, _, _, rM, rB, kt, kb, by unfold TablesF; rw [if_pos h.ok, if_pos ht], by unfold FuseF; rw [if_pos h.ok], by unfold ThreadF; rw [if_pos h.ok], hM, ?_, ?_⟩
  · unfold BlockF TablesF FuseF ThreadF
    rw [if_pos h.ok, if_pos ht]
    simp only [Option.bind_some]
    rw [if_pos h1.ok]
    simp only [Option.bind_some]
    rw [if_pos h2.ok]
    simp only [Option.bind_some]
    exact hB
  · intro r hr
    rcases hr with rfl | rfl | rfl | rfl | rfl
    · exact sm _ h1
    · exact sm _ h.fuse
    · exact sm _ h.thread
    · exact ⟨by omega, by omega, by omega⟩
    · exact ⟨by omega, by omega, by omega⟩
end Go.Proofs.Ytedghbjmhcgilaa.A
end
section
namespace Go.Proofs.Ytedghbjmhcgilaa.A
open Go.RowKit Go.Proofs.YtedghbjmhcgilaaW.PrintWords Go.Proofs.YtedghbjmhcgilaaW.PrintLast Go.Proofs.YtedghbjmhcgilaaW.PrintMore
open Go.Proofs.Ytedghbjmhcgilaa.POpt
set_option linter.unusedVariables false
set_option linter.unusedSimpArgs false
theorem rising_of {l : List S37} (h : ∀ i, 0 < i → i < l.length → (at2 l (i - 1)).f0 < (at2 l i).f0) : Rising l := by
  unfold Rising
  rw [List.pairwise_iff_getElem]
  intro i j hi hj hij
  induction j with
  | zero => omega
  | succ j ih =>
    have h1 := h (j + 1) (by omega) hj
    rw [at2_lt hj, show j + 1 - 1 = j by omega, at2_lt (show j < l.length by omega)] at h1
    by_cases e : i = j
    · subst e; exact h1
    · have := ih (by omega) (by omega); omega
theorem rising_l0 {l : List S37} (hl : l.length ≤ 1048576) (p : Nat) : ∀ (i : Nat), 0 < i → i + p = l.length + 1 → ∃ k r, cartoucheref13_rising.l0 k l (i : Int) = some r ∧ (r = true → ∀ j, i ≤ j → j < l.length → (at2 l (j - 1)).f0 < (at2 l j).f0) := by
  induction p with
  | zero =>
    intro i h0 hp
    refine ⟨1, true, ?_, fun _ j h1 h2 => by omega⟩
    rw [cartoucheref13_rising.l0, if_neg (by omega)]
  | succ p ih =>
    intro i h0 hp
    by_cases hi : i < l.length
    · obtain ⟨k, r, hk, hr⟩ := ih (i + 1) (by omega) (by omega)
      have e1 : wrap64 ((i : Int) - 1) = ((i - 1 : Nat) : Int) := by rw [w64i (by omega)]; omega
      have e2 : wrap64 ((i : Int) + 1) = ((i + 1 : Nat) : Int) := by rw [w64i (by omega)]; omega
      have open_ : ∀ k, cartoucheref13_rising.l0 (k + 1) l (i : Int) = if (at2 l (i - 1)).f0 ≥ (at2 l i).f0 then some false else cartoucheref13_rising.l0 k l ((i + 1 : Nat) : Int) := by
        intro k
        rw [cartoucheref13_rising.l0, if_pos (by omega), e1, if_pos (by omega), if_pos (by omega), if_pos (by omega), rd37, rd37, e2]
      by_cases hc : (at2 l (i - 1)).f0 ≥ (at2 l i).f0
      · exact ⟨1, false, by rw [open_, if_pos hc], fun h => by cases h⟩
      · refine ⟨k + 1, r, by rw [open_, if_neg hc]; exact hk, fun h j h1 h2 => ?_⟩
        by_cases e : j = i
        · subst e; omega
        · exact hr h j (by omega) h2
    · refine ⟨1, true, ?_, fun _ j h1 h2 => by omega⟩
      rw [cartoucheref13_rising.l0, if_neg (by omega)]
theorem rising_total {l : List S37} (hl : l.length ≤ 1048576) : ∃ k r, cartoucheref13_rising.f k l = some r ∧ (r = true → Rising l) := by
  obtain ⟨k, r, hk, hr⟩ := rising_l0 hl l.length 1 (by omega) (by omega)
  exact ⟨k, r, hk, fun h => rising_of (fun i h0 h1 => hr h i (by omega) h1)⟩
def okE (bs : List S30) (n i : Nat) (x : S35) : Bool :=
  (decide (16 ≤ x.f0) && (decide (x.f0 ≤ 25) && (!(x.f0 == 24 && decide (i + 1 < n)) && numS bs x))) && !(x.f0 == 16 && (decide (x.f2 ≤ i) || decide (x.f2 ≥ n)))
section
variable (bs : List S30) (l e : List S35) (r : List S37)
theorem enc_step {k : Nat} {i : Nat} (hi : i < e.length) (hl : e.length ≤ 1048576) : cartoucheref13_enc.l0 (k + 2) (e.length : Int) (i : Int) bs l e r = if okE bs e.length i (at5 e i) = true then cartoucheref13_enc.l0 k (e.length : Int) ((i + 1 : Nat) : Int) bs l e r else some false := by
  have e2 : wrap64 ((i : Int) + 1) = ((i + 1 : Nat) : Int) := by rw [w64i (by omega)]; omega
  have e3 : wrap64 ((e.length : Int) - 1) = ((e.length - 1 : Nat) : Int) := by rw [w64i (by omega)]; omega
  rw [cartoucheref13_enc.l0, if_pos (by omega), if_pos (by omega), if_pos (by omega), rd35, e3]
  simp only [cartoucheref13_numbers.f, Option.bind_some]
  generalize at5 e i = x
  have hnum : N.numB bs x.f0 x.f1 x.f2 x.f3 x.f4 = numS bs x := rfl
  rw [hnum]
  have j2 : ∀ b : Bool, cartoucheref13_enc.j2 (k + 1) (e.length : Int) (i : Int) b bs l e r x.f0 x.f1 x.f2 x.f3 x.f4 = if b = true then some false else if (!(x.f0 == 16 && (decide (x.f2 ≤ i) || decide (x.f2 ≥ e.length)))) = true then cartoucheref13_enc.l0 k (e.length : Int) ((i + 1 : Nat) : Int) bs l e r else some false := by
    intro b
    rw [cartoucheref13_enc.j2, e2]
    by_cases h4 : x.f0 = 16
    · by_cases a1 : x.f2 ≤ i
      · simp [h4, a1]
      · by_cases a2 : x.f2 ≥ e.length
        · simp [h4, a1, a2]
        · simp [h4, a1, a2]
    · simp [h4]
  simp only [j2]
  unfold okE
  generalize (!(x.f0 == 16 && (decide (x.f2 ≤ i) || decide (x.f2 ≥ e.length)))) = T
  by_cases a1 : x.f0 < 16
  · have : ¬ 16 ≤ x.f0 := by omega
    simp [a1, this]
  · have b1 : 16 ≤ x.f0 := by omega
    by_cases a2 : x.f0 > 25
    · have : ¬ x.f0 ≤ 25 := by omega
      simp [a1, a2, this]
    · have b2 : x.f0 ≤ 25 := by omega
      by_cases a3 : x.f0 = 24
      · by_cases a4 : i + 1 < e.length
        · have : (i : Int) < ((e.length - 1 : Nat) : Int) := by omega
          simp [a3, a4, this]
        · have : ¬ (i : Int) < ((e.length - 1 : Nat) : Int) := by omega
          cases numS bs x <;> simp [a3, a4, this]
      · cases numS bs x <;> simp [a1, a2, a3, b1, b2]
theorem enc_go (hl : e.length ≤ 1048576) (p : Nat) : ∀ (i : Nat), i + p = e.length → ∃ k b, cartoucheref13_enc.l0 k (e.length : Int) (i : Int) bs l e r = some b ∧ (b = true → ∀ j, i ≤ j → j < e.length → okE bs e.length j (at5 e j) = true) := by
  induction p with
  | zero =>
    intro i hp
    refine ⟨1, true, ?_, fun _ j h1 h2 => by omega⟩
    rw [cartoucheref13_enc.l0, if_neg (by omega)]
  | succ p ih =>
    intro i hp
    have hi : i < e.length := by omega
    by_cases hok : okE bs e.length i (at5 e i) = true
    · obtain ⟨k, b, hk, hb⟩ := ih (i + 1) (by omega)
      refine ⟨k + 2, b, by rw [enc_step bs l e r hi hl, if_pos hok]; exact hk, fun h j h1 h2 => ?_⟩
      by_cases ej : j = i
      · subst ej; exact hok
      · exact hb h j (by omega) h2
    · exact ⟨0 + 2, false, by rw [enc_step bs l e r hi hl, if_neg hok], fun h => by cases h⟩
structure EncOK (bs : List S30) (e : List S35) : Prop where
  good : GoodE e
  num : ∀ x ∈ e, numS bs x = true
theorem enc_total (hl : e.length ≤ 1048576) : ∃ k b, cartoucheref13_enc.f k bs l e r = some b ∧ (b = true → EncOK bs e) := by
  unfold cartoucheref13_enc.f
  by_cases h0 : (e.length : Int) = 0
  · refine ⟨1, false, ?_, fun h => by cases h⟩
    rw [if_pos h0, cartoucheref13_enc.j0, if_pos rfl]
  · simp only [if_neg h0]
    have e1 : wrap64 ((e.length : Int) - 1) = ((e.length - 1 : Nat) : Int) := by rw [w64i (by omega)]; omega
    rw [e1, rd35]
    have c1 : (0 : Int) ≤ ((e.length - 1 : Nat) : Int) := by omega
    have c2 : ((e.length - 1 : Nat) : Int) < (e.length : Int) := by omega
    simp only [if_pos c1, if_pos c2]
    by_cases hlast : (at5 e (e.length - 1)).f0 = 24
    · obtain ⟨k, b, hk, hb⟩ := enc_go bs l e r hl e.length 0 (by omega)
      refine ⟨k + 1, b, ?_, fun h => ?_⟩
      · rw [cartoucheref13_enc.j0, if_neg (by simp [hlast])]; exact hk
      · have F : ∀ i, i < e.length → (16 ≤ (at5 e i).f0 ∧ (at5 e i).f0 ≤ 25) ∧ ((at5 e i).f0 = 24 → i = e.length - 1) ∧ numS bs (at5 e i) = true ∧ ((at5 e i).f0 = 16 → (i : Int) < (at5 e i).f2 ∧ (at5 e i).f2 < e.length) := by
          intro i hi
          have h1 := hb h i (by omega) hi
          unfold okE at h1
          simp only [Bool.and_eq_true, decide_eq_true_eq, Bool.not_eq_true', Bool.and_eq_false_iff, Bool.or_eq_false_iff, decide_eq_false_iff_not, beq_eq_false_iff_ne] at h1
          obtain ⟨⟨q1, q2, q3, q4⟩, q5⟩ := h1
          refine ⟨⟨q1, q2⟩, fun ee => ?_, q4, fun ee => ?_⟩
          · rcases q3 with q | q
            · exact absurd ee q
            · omega
          · rcases q5 with q | q
            · exact absurd ee q
            · omega
        refine ⟨⟨by omega, fun i hi => (F i hi).1, fun i hi => ⟨(F i hi).2.1, fun ee => by subst ee; exact hlast⟩, fun i hi => (F i hi).2.2.2⟩, fun x hx => ?_⟩
        obtain ⟨i, hi, rfl⟩ := List.mem_iff_getElem.1 hx
        have := (F i hi).2.2.1
        rwa [at5_lt hi] at this
    · exact ⟨1, false, by rw [cartoucheref13_enc.j0, if_pos (by simp [hlast])], fun h => by cases h⟩
end
theorem up {α : Type} {f : Nat → Option α} (h : ∀ k, LeO (f k) (f (k + 1))) {k m : Nat} {r : α} (hk : f k = some r) (hle : k ≤ m) : f m = some r := by
  induction m with
  | zero => have : k = 0 := by omega
            subst this; exact hk
  | succ m ih =>
    by_cases e : k = m + 1
    · subst e; exact hk
    · exact h m r (ih (by omega))
structure OKBlock (bs : List S30) (b : S30) : Prop where
  rise : Rising b.f2
  or : ((0 < b.f0.length ∨ 0 < b.f1.length) ∧ DecOK bs b.f0 b.f2 ∧ EncOK bs b.f1) ∨ (b.f0.length = 0 ∧ b.f1.length = 0 ∧ 1 ≤ b.f2.length ∧ b.f2.length ≤ 128 ∧ ∀ y ∈ b.f2, 0 ≤ y.f0 ∧ y.f0 < 2147483648 ∧ y.f1 = 0)
section
variable (bs : List S30)
theorem valid_up {k m : Nat} {i : Int} {r : Bool} (h : cartoucheref13_Valid.l0 k i bs = some r) (hle : k ≤ m) : cartoucheref13_Valid.l0 m i bs = some r := up (f := fun k => cartoucheref13_Valid.l0 k i bs) (fun k => (cartoucheref13_Valid.mono_l k).1 i bs) h hle
theorem valid_rows {l e : List S35} {r : List S37} {i : Nat} (hr : r.length ≤ 1048576) (hib : i < 1048576) (K : Nat) (R : Bool) (hK : cartoucheref13_Valid.l0 K ((i + 1 : Nat) : Int) bs = some R) (p : Nat) : ∀ (j : Nat), j + p = r.length → ∃ k b, cartoucheref13_Valid.l1 k (i : Int) (j : Int) bs l e r = some b ∧ (b = true → R = true ∧ ∀ q, j ≤ q → q < r.length → 0 ≤ (at2 r q).f0 ∧ (at2 r q).f0 < 2147483648 ∧ (at2 r q).f1 = 0) := by
  induction p with
  | zero =>
    intro j hj
    refine ⟨K + 1, R, ?_, fun h => ⟨h, fun q h1 h2 => by omega⟩⟩
    rw [cartoucheref13_Valid.l1, if_neg (by omega), show wrap64 ((i : Int) + 1) = ((i + 1 : Nat) : Int) by rw [w64i (by omega)]; omega]
    exact hK
  | succ p ih =>
    intro j hj
    obtain ⟨k, b, hk, hb⟩ := ih (j + 1) (by omega)
    have e2 : wrap64 ((j : Int) + 1) = ((j + 1 : Nat) : Int) := by rw [w64i (by omega)]; omega
    have open_ : ∀ k, cartoucheref13_Valid.l1 (k + 1) (i : Int) (j : Int) bs l e r = if (at2 r j).f0 < 0 then some false else if (at2 r j).f0 ≥ 2147483648 then some false else if (at2 r j).f1 = 0 then cartoucheref13_Valid.l1 k (i : Int) ((j + 1 : Nat) : Int) bs l e r else some false := by
      intro k
      rw [cartoucheref13_Valid.l1, if_pos (by omega), if_pos (by omega), rd37, e2]
    by_cases h1 : (at2 r j).f0 < 0
    · exact ⟨1, false, by rw [open_, if_pos h1], fun h => by cases h⟩
    by_cases h2 : (at2 r j).f0 ≥ 2147483648
    · exact ⟨1, false, by rw [open_, if_neg h1, if_pos h2], fun h => by cases h⟩
    by_cases h3 : (at2 r j).f1 = 0
    · refine ⟨k + 1, b, by rw [open_, if_neg h1, if_neg h2, if_pos h3]; exact hk, fun h => ⟨(hb h).1, fun q g1 g2 => ?_⟩⟩
      by_cases eq : q = j
      · subst eq; exact ⟨by omega, by omega, h3⟩
      · exact (hb h).2 q (by omega) g2
    · exact ⟨1, false, by rw [open_, if_neg h1, if_neg h2, if_neg h3], fun h => by cases h⟩
theorem message_iff {i : Nat} (hi : i < bs.length) : N.isMessageB bs (i : Int) = true ↔ (0 < (bs[i]).f0.length ∨ 0 < (bs[i]).f1.length) := by
  have e : rd_T30 bs (i : Int) = bs[i] := by simp [rd_T30, hi]
  have h := N.isMessageB_f bs (i : Int)
  unfold cartoucheref13_isMessage.f at h
  rw [if_pos (by omega), if_pos (by omega), if_pos (by omega), e] at h
  by_cases h0 : ((bs[i]).f0.length : Int) > 0
  · rw [if_pos h0] at h
    injection h with h
    rw [← h]
    simp
    left; omega
  · rw [if_neg h0] at h
    injection h with h
    rw [← h]
    simp
    omega
theorem valid_go (hlen : bs.length ≤ 1048576) (hs : ∀ b ∈ bs, b.f0.length ≤ 1048576 ∧ b.f1.length ≤ 1048576 ∧ b.f2.length ≤ 1048576) (p : Nat) : ∀ i, i + p = bs.length → ∃ k r, cartoucheref13_Valid.l0 k (i : Int) bs = some r ∧ (r = true → ∀ j, (hj : j < bs.length) → i ≤ j → OKBlock bs (bs[j])) := by
  induction p with
  | zero =>
    intro i hp
    refine ⟨1, true, ?_, fun _ j hj h1 => by omega⟩
    rw [cartoucheref13_Valid.l0, if_neg (by omega)]
  | succ p ih =>
    intro i hp
    have hi : i < bs.length := by omega
    obtain ⟨K, R, hK, hR⟩ := ih (i + 1) (by omega)
    have e2 : wrap64 ((i : Int) + 1) = ((i + 1 : Nat) : Int) := by rw [w64i (by omega)]; omega
    have e : rd_T30 bs (i : Int) = bs[i] := by simp [rd_T30, hi]
    obtain ⟨s0, s1, s2⟩ := hs _ (List.getElem_mem hi)
    have hmsg := message_iff bs hi
    generalize hb : bs[i] = b at *
    obtain ⟨k1, r1, hk1, hr1⟩ := rising_total s2
    obtain ⟨k3, r3, hk3, hr3⟩ := enc_total bs b.f0 b.f1 b.f2 s1
    have hd : cartoucheref13_dec.f bs b.f0 b.f1 b.f2 = some (decB bs b.f0 b.f2) := by unfold cartoucheref13_dec.f; rw [if_pos (by omega), if_pos (by omega)]
    have next : ∀ (P : Prop) (r : Bool), (r = true → OKBlock bs b) → (r = true → ∀ j, (hj : j < bs.length) → i + 1 ≤ j → OKBlock bs (bs[j])) → r = true → ∀ j, (hj : j < bs.length) → i ≤ j → OKBlock bs (bs[j]) := by
      intro _ r h1 h2 hr j hj hij
      by_cases ej : j = i
      · subst ej; rw [hb]; exact h1 hr
      · exact h2 hr j hj (by omega)
    have open_ : ∀ k, k1 ≤ k → k3 ≤ k → cartoucheref13_Valid.l0 (k + 1) (i : Int) bs = if r1 = true then (if N.isMessageB bs (i : Int) = true then (if decB bs b.f0 b.f2 = true then (if r3 = true then cartoucheref13_Valid.l0 k ((i + 1 : Nat) : Int) bs else some false) else some false) else (if (b.f2.length : Int) < 1 then cartoucheref13_Valid.j1 k (i : Int) true bs b.f0 b.f1 b.f2 else cartoucheref13_Valid.j1 k (i : Int) (decide ((b.f2.length : Int) > 128)) bs b.f0 b.f1 b.f2)) else some false := by
      intro k h1 h3
      have q1 := up (f := fun k => cartoucheref13_rising.f k b.f2) (fun k => cartoucheref13_rising.mono _ _) hk1 h1
      have q3 := up (f := fun k => cartoucheref13_enc.f k bs b.f0 b.f1 b.f2) (fun k => cartoucheref13_enc.mono _ _ _ _ _) hk3 h3
      rw [cartoucheref13_Valid.l0, if_pos (by omega), if_pos (by omega), e, q1, N.isMessageB_f, hd, q3, e2]
      simp only [Option.bind_some]
    by_cases t1 : r1 = true
    case neg => exact ⟨max k1 k3 + 1, false, by rw [open_ _ (by omega) (by omega), if_neg t1], fun h => by cases h⟩
    by_cases t2 : N.isMessageB bs (i : Int) = true
    · by_cases t3 : decB bs b.f0 b.f2 = true
      case neg => exact ⟨max k1 k3 + 1, false, by rw [open_ _ (by omega) (by omega), if_pos t1, if_pos t2, if_neg t3], fun h => by cases h⟩
      by_cases t4 : r3 = true
      case neg => exact ⟨max k1 k3 + 1, false, by rw [open_ _ (by omega) (by omega), if_pos t1, if_pos t2, if_pos t3, if_neg t4], fun h => by cases h⟩
      refine ⟨max K (max k1 k3) + 1, R, by rw [open_ _ (by omega) (by omega), if_pos t1, if_pos t2, if_pos t3, if_pos t4]; exact valid_up bs hK (by omega), ?_⟩
      exact next True R (fun _ => ⟨hr1 t1, .inl ⟨hmsg.1 t2, decB_ok t3, hr3 t4⟩⟩) hR
    · have hz : b.f0.length = 0 ∧ b.f1.length = 0 := by
        have := fun h => t2 (hmsg.2 h)
        constructor
        · false_or_by_contra; exact this (.inl (by omega))
        · false_or_by_contra; exact this (.inr (by omega))
      by_cases t5 : (b.f2.length : Int) < 1
      · refine ⟨max 1 (max k1 k3) + 1, false, ?_, fun h => by cases h⟩
        rw [open_ _ (by omega) (by omega), if_pos t1, if_neg t2, if_pos t5]
        obtain ⟨m, hm⟩ : ∃ m, max 1 (max k1 k3) = m + 1 := ⟨max 1 (max k1 k3) - 1, by omega⟩
        rw [hm, cartoucheref13_Valid.j1, if_pos rfl]
      · by_cases t6 : (b.f2.length : Int) > 128
        · refine ⟨max 1 (max k1 k3) + 1, false, ?_, fun h => by cases h⟩
          rw [open_ _ (by omega) (by omega), if_pos t1, if_neg t2, if_neg t5]
          obtain ⟨m, hm⟩ : ∃ m, max 1 (max k1 k3) = m + 1 := ⟨max 1 (max k1 k3) - 1, by omega⟩
          rw [hm, cartoucheref13_Valid.j1, if_pos (by simp; omega)]
        · obtain ⟨k, rr, hk, hrr⟩ := valid_rows bs (l := b.f0) (e := b.f1) (i := i) s2 (by omega) K R hK b.f2.length 0 (by omega)
          have hk' := fun m (h : k ≤ m) => up (f := fun k => cartoucheref13_Valid.l1 k (i : Int) 0 bs b.f0 b.f1 b.f2) (fun k => (cartoucheref13_Valid.mono_l k).2.2 _ _ _ _ _ _) hk h
          refine ⟨max k (max k1 k3) + 1 + 1, rr, ?_, ?_⟩
          · rw [open_ _ (by omega) (by omega), if_pos t1, if_neg t2, if_neg t5, cartoucheref13_Valid.j1, if_neg (by simp; omega)]
            exact hk' _ (by omega)
          · refine next True rr (fun h => ⟨hr1 t1, .inr ⟨hz.1, hz.2, by omega, by omega, fun y hy => ?_⟩⟩) (fun h => hR (hrr h).1)
            obtain ⟨q, hq, rfl⟩ := List.mem_iff_getElem.1 hy
            have := (hrr h).2 q (by omega) hq
            rwa [at2_lt hq] at this
theorem valid_total (hlen : bs.length ≤ 1048576) (hs : ∀ b ∈ bs, b.f0.length ≤ 1048576 ∧ b.f1.length ≤ 1048576 ∧ b.f2.length ≤ 1048576) : ∃ k r, cartoucheref13_Valid.f k bs = some r ∧ (r = true → ∀ b ∈ bs, OKBlock bs b) := by
  unfold cartoucheref13_Valid.f
  by_cases h : (bs.length : Int) > 128
  · exact ⟨0, false, by rw [if_pos h], fun h => by cases h⟩
  · obtain ⟨k, r, hk, hr⟩ := valid_go bs hlen hs bs.length 0 (by omega)
    refine ⟨k, r, by rw [if_neg h]; exact hk, fun h b hb => ?_⟩
    obtain ⟨j, hj, rfl⟩ := List.mem_iff_getElem.1 hb
    exact hr h j hj (by omega)
end
end Go.Proofs.Ytedghbjmhcgilaa.A
end
