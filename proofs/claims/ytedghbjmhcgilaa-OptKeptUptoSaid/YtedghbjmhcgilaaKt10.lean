import Derived.Test.YtedghbjmhcgilaaKt4
section
namespace Go.Proofs.Ytedghbjmhcgilaa.POpt
open Go.RowKit Go.Proofs.YtedghbjmhcgilaaW.PrintWords Go.Proofs.YtedghbjmhcgilaaW.PrintLast Go.Proofs.YtedghbjmhcgilaaW.PrintMore
attribute [local go_sem] max2_int min2_int max_two min_two max_three min_three max_four min_four
set_option linter.unusedVariables false
set_option linter.unusedSimpArgs false
mutual
def opt_reached.l0 : Nat → List (S35) → List (S37) → List Bool → List Int → Option (List Bool)
 | 0, _, _, _, _ => none
 | k + 1, x0, x1, x5, x6 => if (x6.length : Int) > 0 then (if 0 ≤ (wrap64 ((x6.length : Int) - 1)) then (if (wrap64 ((x6.length : Int) - 1)) < (x6.length : Int) then (if (wrap64 ((x6.length : Int) - 1)) ≤ (x6.length : Int) then ((some (x6.take ((wrap64 ((x6.length : Int) - 1)) : Int).toNat : List Int)).bind fun y147 => (if (rd x6 (wrap64 ((x6.length : Int) - 1))) < 0 then (opt_reached.j1 k x0 x1 x5 y147 (rd x6 (wrap64 ((x6.length : Int) - 1))) true) else (if (rd x6 (wrap64 ((x6.length : Int) - 1))) ≥ (x0.length : Int) then (opt_reached.j1 k x0 x1 x5 y147 (rd x6 (wrap64 ((x6.length : Int) - 1))) true) else (if 0 ≤ (rd x6 (wrap64 ((x6.length : Int) - 1))) then (if (rd x6 (wrap64 ((x6.length : Int) - 1))) < (x5.length : Int) then (opt_reached.j1 k x0 x1 x5 y147 (rd x6 (wrap64 ((x6.length : Int) - 1))) (rdOf false x5 (rd x6 (wrap64 ((x6.length : Int) - 1))))) else (none)) else (none))))) else (none)) else (none)) else (none)) else (some x5)
def opt_reached.j1 : Nat → List (S35) → List (S37) → List Bool → List Int → Int → Bool → Option (List Bool)
 | 0, _, _, _, _, _, _ => none
 | k + 1, x0, x1, x5, x6, x7, x42 => if x42 = true then (opt_reached.l0 k x0 x1 x5 x6) else (if 0 ≤ x7 then (if x7 < (x5.length : Int) then ((some (x5.set (x7 : Int).toNat true : List Bool)).bind fun y151 => (if x7 < (x0.length : Int) then (if ((rd_T35 x0 x7).f0) = 4 then (if x6.length < 17592186044416 then (opt_reached.l0 k x0 x1 y151 (x6 ++ [(rd_T35 x0 x7).f1])) else (none)) else (if ((rd_T35 x0 x7).f0) = 3 then (if x6.length < 17592186044416 then (opt_reached.l1 k x0 x1 y151 (x6 ++ [(rd_T35 x0 x7).f1]) x1 (x1.length : Int) 0) else (none)) else (if ((rd_T35 x0 x7).f0) = 2 then (opt_reached.j3 k x0 x1 y151 x6 x7 ((rd_T35 x0 x7).f0) (((rd_T35 x0 x7).f0) == 2) ((rd_T35 x0 x7).f0) ((rd_T35 x0 x7).f1) ((rd_T35 x0 x7).f2) ((rd_T35 x0 x7).f3) ((rd_T35 x0 x7).f4)) else (opt_reached.j3 k x0 x1 y151 x6 x7 ((rd_T35 x0 x7).f0) (((rd_T35 x0 x7).f0) == 16) ((rd_T35 x0 x7).f0) ((rd_T35 x0 x7).f1) ((rd_T35 x0 x7).f2) ((rd_T35 x0 x7).f3) ((rd_T35 x0 x7).f4))))) else (none))) else (none)) else (none))
def opt_reached.l1 : Nat → List (S35) → List (S37) → List Bool → List Int → List (S37) → Int → Int → Option (List Bool)
 | 0, _, _, _, _, _, _, _ => none
 | k + 1, x0, x1, x5, x6, x71, x72, x73 => if x73 < x72 then (if 0 ≤ x73 then (if x73 < (x71.length : Int) then (if x6.length < 17592186044416 then (opt_reached.l1 k x0 x1 x5 (x6 ++ [(rd_T37 x71 x73).f1]) x71 x72 (wrap64 (x73 + 1))) else (none)) else (none)) else (none)) else (opt_reached.l0 k x0 x1 x5 x6)
def opt_reached.j3 : Nat → List (S35) → List (S37) → List Bool → List Int → Int → Int → Bool → Int → Int → Int → Int → Int → Option (List Bool)
 | 0, _, _, _, _, _, _, _, _, _, _, _, _ => none
 | k + 1, x0, x1, x5, x6, x7, x51, x83, x154000, x154001, x154002, x154003, x154004 => if x83 = true then ((some (([wrap64 (x7 + 1), x154002] : List Int) : List Int)).bind fun y165 => (if x6.length + y165.length < 17592186044416 then (opt_reached.l0 k x0 x1 x5 (x6 ++ y165)) else (none))) else (if x51 = 24 then (opt_reached.l0 k x0 x1 x5 x6) else (if x6.length < 17592186044416 then (opt_reached.l0 k x0 x1 x5 (x6 ++ [wrap64 (x7 + 1)])) else (none)))
end
def opt_reached.f (k : Nat) (l0 : List (S35)) (l1 : List (S37)) : Option (List Bool) := if 0 ≤ (l0.length : Int) then (if ((l0.length : Int) : Int).toNat ≤ 281474976710656 then (opt_reached.l0 k l0 l1 (List.replicate ((l0.length : Int) : Int).toNat false) (([0] : List Int))) else (none)) else (none)
theorem opt_reached.mono_l : ∀ k, (∀ y0 y1 y2 y3, LeO (opt_reached.l0 k y0 y1 y2 y3) (opt_reached.l0 (k + 1) y0 y1 y2 y3)) ∧ (∀ y0 y1 y2 y3 y4 y5, LeO (opt_reached.j1 k y0 y1 y2 y3 y4 y5) (opt_reached.j1 (k + 1) y0 y1 y2 y3 y4 y5)) ∧ (∀ y0 y1 y2 y3 y4 y5 y6, LeO (opt_reached.l1 k y0 y1 y2 y3 y4 y5 y6) (opt_reached.l1 (k + 1) y0 y1 y2 y3 y4 y5 y6)) ∧ (∀ y0 y1 y2 y3 y4 y5 y6 y7 y8 y9 y10 y11, LeO (opt_reached.j3 k y0 y1 y2 y3 y4 y5 y6 y7 y8 y9 y10 y11) (opt_reached.j3 (k + 1) y0 y1 y2 y3 y4 y5 y6 y7 y8 y9 y10 y11))
 | 0 => ⟨fun _ _ _ _ r h => by simp [opt_reached.l0] at h, fun _ _ _ _ _ _ r h => by simp [opt_reached.j1] at h, fun _ _ _ _ _ _ _ r h => by simp [opt_reached.l1] at h, fun _ _ _ _ _ _ _ _ _ _ _ _ r h => by simp [opt_reached.j3] at h⟩
 | k + 1 => by
  obtain ⟨ih0, ih1, ih2, ih3⟩ := opt_reached.mono_l k
  refine ⟨?_, ?_, ?_, ?_⟩
  ·intro y0 y1 y2 y3
   unfold opt_reached.l0
   repeat' first
   | (with_reducible exact ih0 _ _ _ _)
   | (with_reducible exact ih1 _ _ _ _ _ _)
   | (with_reducible exact ih2 _ _ _ _ _ _ _)
   | (with_reducible exact ih3 _ _ _ _ _ _ _ _ _ _ _ _)
   | (with_reducible exact LeO.refl _)
   | (with_reducible exact LeO.none _)
   | (with_reducible refine LeO.ite ?_ ?_)
   | (with_reducible refine LeO.bind ?_ (fun _ => ?_))
   | exact ih0 _ _ _ _
   | exact ih1 _ _ _ _ _ _
   | exact ih2 _ _ _ _ _ _ _
   | exact ih3 _ _ _ _ _ _ _ _ _ _ _ _
   | exact LeO.none _
   | refine LeO.ite ?_ ?_
   | refine LeO.bind ?_ (fun _ => ?_)
  ·intro y0 y1 y2 y3 y4 y5
   unfold opt_reached.j1
   repeat' first
   | (with_reducible exact ih0 _ _ _ _)
   | (with_reducible exact ih1 _ _ _ _ _ _)
   | (with_reducible exact ih2 _ _ _ _ _ _ _)
   | (with_reducible exact ih3 _ _ _ _ _ _ _ _ _ _ _ _)
   | (with_reducible exact LeO.refl _)
   | (with_reducible exact LeO.none _)
   | (with_reducible refine LeO.ite ?_ ?_)
   | (with_reducible refine LeO.bind ?_ (fun _ => ?_))
   | exact ih0 _ _ _ _
   | exact ih1 _ _ _ _ _ _
   | exact ih2 _ _ _ _ _ _ _
   | exact ih3 _ _ _ _ _ _ _ _ _ _ _ _
   | exact LeO.none _
   | refine LeO.ite ?_ ?_
   | refine LeO.bind ?_ (fun _ => ?_)
  ·intro y0 y1 y2 y3 y4 y5 y6
   unfold opt_reached.l1
   repeat' first
   | (with_reducible exact ih0 _ _ _ _)
   | (with_reducible exact ih1 _ _ _ _ _ _)
   | (with_reducible exact ih2 _ _ _ _ _ _ _)
   | (with_reducible exact ih3 _ _ _ _ _ _ _ _ _ _ _ _)
   | (with_reducible exact LeO.refl _)
   | (with_reducible exact LeO.none _)
   | (with_reducible refine LeO.ite ?_ ?_)
   | (with_reducible refine LeO.bind ?_ (fun _ => ?_))
   | exact ih0 _ _ _ _
   | exact ih1 _ _ _ _ _ _
   | exact ih2 _ _ _ _ _ _ _
   | exact ih3 _ _ _ _ _ _ _ _ _ _ _ _
   | exact LeO.none _
   | refine LeO.ite ?_ ?_
   | refine LeO.bind ?_ (fun _ => ?_)
  ·intro y0 y1 y2 y3 y4 y5 y6 y7 y8 y9 y10 y11
   unfold opt_reached.j3
   repeat' first
   | (with_reducible exact ih0 _ _ _ _)
   | (with_reducible exact ih1 _ _ _ _ _ _)
   | (with_reducible exact ih2 _ _ _ _ _ _ _)
   | (with_reducible exact ih3 _ _ _ _ _ _ _ _ _ _ _ _)
   | (with_reducible exact LeO.refl _)
   | (with_reducible exact LeO.none _)
   | (with_reducible refine LeO.ite ?_ ?_)
   | (with_reducible refine LeO.bind ?_ (fun _ => ?_))
   | exact ih0 _ _ _ _
   | exact ih1 _ _ _ _ _ _
   | exact ih2 _ _ _ _ _ _ _
   | exact ih3 _ _ _ _ _ _ _ _ _ _ _ _
   | exact LeO.none _
   | refine LeO.ite ?_ ?_
   | refine LeO.bind ?_ (fun _ => ?_)
theorem opt_reached.mono : ∀ a0 a1 k, LeO (opt_reached.f k a0 a1) (opt_reached.f (k + 1) a0 a1) := by
 intro a0 a1 k
 obtain ⟨ih0, ih1, ih2, ih3⟩ := opt_reached.mono_l k
 unfold opt_reached.f
 repeat' first
   | (with_reducible exact ih0 _ _ _ _)
   | (with_reducible exact ih1 _ _ _ _ _ _)
   | (with_reducible exact ih2 _ _ _ _ _ _ _)
   | (with_reducible exact ih3 _ _ _ _ _ _ _ _ _ _ _ _)
   | (with_reducible exact LeO.refl _)
   | (with_reducible exact LeO.none _)
   | (with_reducible refine LeO.ite ?_ ?_)
   | (with_reducible refine LeO.bind ?_ (fun _ => ?_))
   | exact ih0 _ _ _ _
   | exact ih1 _ _ _ _ _ _
   | exact ih2 _ _ _ _ _ _ _
   | exact ih3 _ _ _ _ _ _ _ _ _ _ _ _
   | exact LeO.none _
   | refine LeO.ite ?_ ?_
   | refine LeO.bind ?_ (fun _ => ?_)
set_option maxHeartbeats 8000000 in
set_option maxRecDepth 100000 in
theorem opt_reached.calls (k : Nat) (A0 : Option Addr) (c0 : Nat) (l0 : List (S35)) (A1 : Option Addr) (c1 : Nat) (l1 : List (S37)) (r : List Bool) (w : World) (hr0 : Kd.C k35 w A0 l0.length l0) (hc0 : l0.length ≤ c0) (hr1 : Kd.C k37 w A1 l1.length l1) (hc1 : l1.length ≤ c1) (h : opt_reached.f k l0 l1 = some r) :
  Calls Try.prog 61 #[.slice A0 l0.length c0, .slice A1 l1.length c1] w fun e w' => ∃ v0_ : Value, e = .returned (v0_) ∧ Kd.R Kd.bool 4 w' w.heap.size (fun _ => True) v0_ r ∧ Below w.heap.size w w' := by
 have hu35 := Try.underlying35
 have hu37 := Try.underlying37
 have HR0 := Aside0.mk hr0
 have HC0 := Aside0.mk hc0
 clear hr0 hc0
 have HR1 := Aside0.mk hr1
 have HC1 := Aside0.mk hc1
 clear hr1 hc1
 have HB := Aside0.mk (Below.refl w.heap.size w)
 have H : (if 0 ≤ (l0.length : Int) then (if ((l0.length : Int) : Int).toNat ≤ 281474976710656 then (opt_reached.l0 k l0 l1 (List.replicate ((l0.length : Int) : Int).toNat false) (([0] : List Int))) else (none)) else (none)) = some r := h
 clear h
 by_cases c3 : 0 ≤ (l0.length : Int)
 ·rw [if_pos c3] at H
  have c3b0 := eq_true c3
  have c3b1 : decide (0 ≤ (l0.length : Int)) = true := decide_eq_true c3
  clear c3
  by_cases c4 : ((l0.length : Int) : Int).toNat ≤ 281474976710656
  ·rw [if_pos c4] at H
   have c4b0 := eq_true c4
   have c4b1 : decide (((l0.length : Int) : Int).toNat ≤ 281474976710656) = true := decide_eq_true c4
   clear c4
   obtain ⟨y140, hy140⟩ : ∃ y_ : List Bool, y_ = (List.replicate ((l0.length : Int) : Int).toNat false) := ⟨_, rfl⟩
   replace H : (opt_reached.l0 k l0 l1 y140 (([0] : List Int))) = some r := by first | (rw [hy140]; with_reducible exact H) | (have H2_ := (Option.bind_some _ _).symm.trans H; rw [hy140]; with_reducible exact H2_) | (have H2_ := (Option.bind_some _ _).symm.trans H; with_reducible exact H2_) | with_reducible exact H | (rw [hy140]; exact H) | exact H
   have Ny140 := Aside0.mk hy140
   clear hy140
   obtain ⟨y143, hy143⟩ : ∃ y_ : List Int, y_ = (([0] : List Int)) := ⟨_, rfl⟩
   replace H : (opt_reached.l0 k l0 l1 y140 y143) = some r := by first | (rw [hy143]; with_reducible exact H) | (have H2_ := (Option.bind_some _ _).symm.trans H; rw [hy143]; with_reducible exact H2_) | (have H2_ := (Option.bind_some _ _).symm.trans H; with_reducible exact H2_) | with_reducible exact H | (rw [hy143]; exact H) | exact H
   have Ny143 := Aside0.mk hy143
   clear hy143
   have H' := Aside0.mk H
   clear H
   go_enter Try.func61, Try.ntmps61
   go_wp2_with (first | ((with_reducible refine gate_dst (N := 13) rfl ?_); (try (refine gate_guard (by rfl) ?_; dsimp only)); refine Kd.R_make Kd.bool _ 4 rfl (N := 13) rfl 55 _ _ rfl (l0.length : Int) rfl rfl Try.underlying55 (.bool false) 1 info4 rfl (by decide) (by omega) false (ok := fun _ => True) (okp := fun _ => True) rfl (fun _ hk => hk) trivial (of_decide_eq_true (by first | (with_reducible assumption) | assumption)) (Nat.le_trans (Nat.mul_le_mul_right _ (of_decide_eq_true (by first | (with_reducible assumption) | assumption) : (l0.length : Int).toNat ≤ 281474976710656)) (by omega)) (Below.refl _ _) (Nat.le_refl _) ?_; intro v141 w5 ho6 hb hg_ hnew_; clear hg_ hnew_; (first | rw [← Ny140.out] at ho6 | (simp only [Int.reduceToNat] at ho6; rw [← Ny140.out] at ho6)); have n0_ := Aside0.mk (Kd.R_lower ho6 (below_size (by repeat (first | (with_reducible first | exact HB.out | apply below_alloc | apply pw_below_drewN | apply below_drew1) | exact HB.out)))); have n1_ := Aside0.mk (below_step (by repeat (first | (with_reducible first | exact HB.out | apply below_alloc | apply pw_below_drewN | apply below_drew1) | exact HB.out)) hb); clear HB; have HO142 := n0_; have HB := n1_; clear n0_ n1_; clear hb ho6) | ((with_reducible refine gate_dst (N := 14) rfl ?_); (try (refine gate_guard (by rfl) ?_; dsimp only)); refine Kd.R_lit (Kd.int .i64) _ 3 ?hg (N := 14) ?hd (xs := ([0] : List Int)) (inner := [.int .i64 0]) (ok := fun _ => True) (okp := fun _ => True) ?hr ?hp (fun _ hk => hk) trivial (Below.refl _ _) (Nat.le_refl _) (by simp) ?_; (case hd => rfl); (case hg => rfl); (case hr => first | (go_simp; done) | (go_simp; rfl)); (case hp => exact (Reps.one (show Kd.M (Kd.int .i64) _ _ _ 0 [.int .i64 0] from rfl) (Reps.none _ _))); intro v144 w7 ho8 hb hg_ hnew_; clear hg_ hnew_; (first | rw [← Ny143.out] at ho8 | (simp only [Int.reduceToNat] at ho8; rw [← Ny143.out] at ho8)); have n0_ := Aside0.mk (Kd.R_below (by (with_reducible repeat (first | apply Kd.R_alloc | apply Kd.R_drewN | apply Kd.R_drew)); exact HO142.out) hb); have n1_ := Aside0.mk (Kd.R_lower ho8 (below_size (by repeat (first | (with_reducible first | exact HB.out | apply below_alloc | apply pw_below_drewN | apply below_drew1) | exact HB.out)))); have n2_ := Aside0.mk (below_step (by repeat (first | (with_reducible first | exact HB.out | apply below_alloc | apply pw_below_drewN | apply below_drew1) | exact HB.out)) hb); clear HO142; clear HB; have HO142 := n0_; have HO145 := n1_; have HB := n2_; clear n0_ n1_ n2_; clear hb ho8))
   go_loopg [6] k (fun kq v6 w' => ∃ (x5_1 : List Bool) (x6_1 : List Int), Aside0 (opt_reached.l0 kq l0 l1 x5_1 x6_1 = some r) ∧ Aside0 (kq ≤ k) ∧ Aside0 (Kd.R Kd.bool 4 w' w.heap.size (fun _ => True) v141 x5_1) ∧ Aside0 (Kd.R (Kd.int .i64) 3 w' w.heap.size (fun _ => True) v6 x6_1) ∧ Aside0 (Below w.heap.size w w'))
   case atStart => exact ⟨(y140), (y143), H', ⟨Nat.le_refl _⟩, ⟨by (with_reducible repeat (first | apply Kd.R_alloc | apply Kd.R_drewN | apply Kd.R_drew)); exact HO142.out⟩, ⟨by (with_reducible repeat (first | apply Kd.R_alloc | apply Kd.R_drewN | apply Kd.R_drew)); exact HO145.out⟩, ⟨by repeat (first | (with_reducible first | exact HB.out | apply below_alloc | apply pw_below_drewN | apply below_drew1) | exact HB.out)⟩⟩
   case round =>
    clear H'
    try clear c1
    try clear p2
    try clear c3
    try clear c3b0
    try clear c3b1
    try clear c4
    try clear c4b0
    try clear c4b1
    try clear c6
    obtain ⟨x5_1, x6_1, HA, HK1, HO_5, HO_6, HB⟩ := hrel
    cases gk with
    | zero => exact absurd HA.out (by simp [opt_reached.l0])
    | succ k1 =>
     have H := HA.out
     clear HA
     simp only [opt_reached.l0] at H
     by_cases c9 : (x6_1.length : Int) > 0
     ·rw [if_pos c9] at H
      have c9b0 : decide (0 < (x6_1.length : Int)) = true := decide_eq_true c9
      have c9b1 : decide (0 < x6_1.length) = true := decide_eq_true (by omega)
      clear c9
      obtain ⟨ji10, hji10⟩ : ∃ j_ : Int, (wrap64 ((x6_1.length : Int) - 1)) = j_ := ⟨_, rfl⟩
      replace H : (if 0 ≤ (ji10) then (if (ji10) < (x6_1.length : Int) then (if (ji10) ≤ (x6_1.length : Int) then ((some (x6_1.take ((ji10) : Int).toNat : List Int)).bind fun y147 => (if (rd x6_1 (ji10)) < 0 then (opt_reached.j1 k1 l0 l1 x5_1 y147 (rd x6_1 (ji10)) true) else (if (rd x6_1 (ji10)) ≥ (l0.length : Int) then (opt_reached.j1 k1 l0 l1 x5_1 y147 (rd x6_1 (ji10)) true) else (if 0 ≤ (rd x6_1 (ji10)) then (if (rd x6_1 (ji10)) < (x5_1.length : Int) then (opt_reached.j1 k1 l0 l1 x5_1 y147 (rd x6_1 (ji10)) (rdOf false x5_1 (rd x6_1 (ji10)))) else (none)) else (none))))) else (none)) else (none)) else (none)) = some r := by first | (rw [hji10] at H; exact H) | (simp only [hji10] at H ⊢; exact H)
      have hji10w : (IntKind.i64.wrap ((x6_1.length : Int) - 1)) = ji10 := (i64_w _).trans hji10
      by_cases c11 : 0 ≤ (ji10)
      ·rw [if_pos c11] at H
       have c11b0 : decide (0 ≤ (ji10)) = true := decide_eq_true c11
       clear c11
       by_cases c12 : (ji10) < (x6_1.length : Int)
       ·rw [if_pos c12] at H
        have c12b0 : decide ((ji10) < (x6_1.length : Int)) = true := decide_eq_true c12
        clear c12
        by_cases c13 : (ji10) ≤ (x6_1.length : Int)
        ·rw [if_pos c13] at H
         have c13b0 := eq_true c13
         have c13b1 : decide ((ji10) ≤ (x6_1.length : Int)) = true := decide_eq_true c13
         clear c13
         obtain ⟨y147, hy147⟩ : ∃ y_ : List Int, y_ = (x6_1.take ((ji10) : Int).toNat) := ⟨_, rfl⟩
         replace H : (if (rd x6_1 (ji10)) < 0 then (opt_reached.j1 k1 l0 l1 x5_1 y147 (rd x6_1 (ji10)) true) else (if (rd x6_1 (ji10)) ≥ (l0.length : Int) then (opt_reached.j1 k1 l0 l1 x5_1 y147 (rd x6_1 (ji10)) true) else (if 0 ≤ (rd x6_1 (ji10)) then (if (rd x6_1 (ji10)) < (x5_1.length : Int) then (opt_reached.j1 k1 l0 l1 x5_1 y147 (rd x6_1 (ji10)) (rdOf false x5_1 (rd x6_1 (ji10)))) else (none)) else (none)))) = some r := by first | (rw [hy147]; with_reducible exact H) | (have H2_ := (Option.bind_some _ _).symm.trans H; rw [hy147]; with_reducible exact H2_) | (have H2_ := (Option.bind_some _ _).symm.trans H; with_reducible exact H2_) | with_reducible exact H | (rw [hy147]; exact H) | exact H
         have Ny147 := Aside0.mk hy147
         clear hy147
         have HC14 := Aside0.mk H
         clear H
         obtain ⟨Ao15, co15, eo15⟩ := Kd.R_slice HO_6.out
         subst eo15
         have p146 : 0 ≤ ((ji10) : Int) := of_decide_eq_true (by first | (with_reducible assumption) | assumption)
         have q146 : (ji10) < (x6_1.length : Int) := of_decide_eq_true (by first | (with_reducible assumption) | assumption)
         obtain ⟨ad146, e146, hx146_0⟩ := Kd.at_int (Kd.R_reads' HO_6.out).2.2 (ji10) p146 q146
         cases e146
         replace p146 := eq_true p146
         replace q146 := eq_true q146
         have q16 : ((ji10) : Int) ≤ ((x6_1.length : Int) : Int) := of_decide_eq_true (by first | (with_reducible assumption) | assumption)
         obtain ⟨i016, hi016, _, hsz16, _⟩ := info_parts info3
         have hcut16 := cut_to (P := Try.prog) 78 3 .i64 Try.underlying78 hi016 (some ad146) x6_1.length co15 (ji10) (of_decide_eq_true (by first | (with_reducible assumption) | assumption)) q16 (Kd.R_reads' HO_6.out).2.1
         have hr16 := Kd.R_take (m := ((ji10) : Int).toNat) HO_6.out (by omega)
         have hy16 : y147.length = ((ji10) : Int).toNat := (by rw [Ny147.out, List.length_take]; omega)
         rw [← Ny147.out] at hr16
         rw [← hy16] at hr16 hcut16
         clear hy16 hi016 hsz16 HO_6
         have HO149 := Aside0.mk hr16
         clear hr16
         replace q16 := eq_true q16
         go_upto_region 6 with (fail)
         go_cut [42] (fun v42 wc => ∃ (kq : Nat) (x42_13 : Bool), v42 = .bool x42_13 ∧ Aside0 (opt_reached.j1 kq l0 l1 x5_1 y147 (rd x6_1 (ji10)) x42_13 = some r) ∧ Aside0 (kq ≤ k1) ∧ Aside0 (Kd.R Kd.bool 4 wc w.heap.size (fun _ => True) v141 x5_1) ∧ Aside0 (Kd.R (Kd.int .i64) 3 wc w.heap.size (fun _ => True) (.slice (some ad146) y147.length co15) y147) ∧ Aside0 (Below w.heap.size w wc))
         case first =>
          have H := HC14.out
          clear HC14
          by_cases c17 : (rd x6_1 (ji10)) < 0
          ·rw [if_pos c17] at H
           have c17b0 : decide ((rd x6_1 (ji10)) < 0) = true := decide_eq_true c17
           clear c17
           (first | rw [c17b0] | (simp only [i64_w, i32_w]; rw [c17b0]) | skip)
           have H' := Aside0.mk H
           clear H
           go_wp2
           go_meet
           case rel => exact ⟨_, (true), (by first | rfl | (simp; done) | (simp [*]; done)), H', ⟨by have := HK1.out; first | omega | exact Nat.le_refl _⟩, ⟨by (with_reducible repeat (first | apply Kd.R_alloc | apply Kd.R_drewN | apply Kd.R_drew)); exact HO_5.out⟩, ⟨by (with_reducible repeat (first | apply Kd.R_alloc | apply Kd.R_drewN | apply Kd.R_drew)); exact HO149.out⟩, ⟨by repeat (first | (with_reducible first | exact HB.out | apply below_alloc | apply pw_below_drewN | apply below_drew1) | exact HB.out)⟩⟩
          ·rw [if_neg c17] at H
           have c17b0 : decide ((rd x6_1 (ji10)) < 0) = false := decide_eq_false c17
           clear c17
           (first | rw [c17b0] | (simp only [i64_w, i32_w]; rw [c17b0]) | skip)
           by_cases c18 : (rd x6_1 (ji10)) ≥ (l0.length : Int)
           ·rw [if_pos c18] at H
            have c18b0 : decide ((l0.length : Int) ≤ (rd x6_1 (ji10))) = true := decide_eq_true c18
            clear c18
            have H' := Aside0.mk H
            clear H
            go_wp2
            go_meet
            case rel => exact ⟨_, (true), (by first | rfl | (simp; done) | (simp [*]; done)), H', ⟨by have := HK1.out; first | omega | exact Nat.le_refl _⟩, ⟨by (with_reducible repeat (first | apply Kd.R_alloc | apply Kd.R_drewN | apply Kd.R_drew)); exact HO_5.out⟩, ⟨by (with_reducible repeat (first | apply Kd.R_alloc | apply Kd.R_drewN | apply Kd.R_drew)); exact HO149.out⟩, ⟨by repeat (first | (with_reducible first | exact HB.out | apply below_alloc | apply pw_below_drewN | apply below_drew1) | exact HB.out)⟩⟩
           ·rw [if_neg c18] at H
            have c18b0 : decide ((l0.length : Int) ≤ (rd x6_1 (ji10))) = false := decide_eq_false c18
            clear c18
            by_cases c19 : 0 ≤ (rd x6_1 (ji10))
            ·rw [if_pos c19] at H
             have c19b0 : decide (0 ≤ (rd x6_1 (ji10))) = true := decide_eq_true c19
             clear c19
             by_cases c20 : (rd x6_1 (ji10)) < (x5_1.length : Int)
             ·rw [if_pos c20] at H
              have c20b0 : decide ((rd x6_1 (ji10)) < (x5_1.length : Int)) = true := decide_eq_true c20
              clear c20
              have H' := Aside0.mk H
              clear H
              obtain ⟨Ao21, co21, eo21⟩ := Kd.R_slice HO_5.out
              subst eo21
              have p150 : 0 ≤ ((rd x6_1 (ji10)) : Int) := of_decide_eq_true (by first | (with_reducible assumption) | assumption)
              have q150 : (rd x6_1 (ji10)) < (x5_1.length : Int) := of_decide_eq_true (by first | (with_reducible assumption) | assumption)
              obtain ⟨ad150, e150, hx150_0⟩ := Kd.at_bool (Kd.R_reads' HO_5.out).2.2 (rd x6_1 (ji10)) p150 q150
              cases e150
              replace p150 := eq_true p150
              replace q150 := eq_true q150
              go_wp2
              go_meet
              case rel => exact ⟨_, (rdOf false x5_1 (rd x6_1 (ji10))), (by first | rfl | (simp; done) | (simp only [← hji10] <;> (first | rfl | (simp; done))) | (simp [*]; done)), H', ⟨by have := HK1.out; first | omega | exact Nat.le_refl _⟩, ⟨by (with_reducible repeat (first | apply Kd.R_alloc | apply Kd.R_drewN | apply Kd.R_drew)); exact HO_5.out⟩, ⟨by (with_reducible repeat (first | apply Kd.R_alloc | apply Kd.R_drewN | apply Kd.R_drew)); exact HO149.out⟩, ⟨by repeat (first | (with_reducible first | exact HB.out | apply below_alloc | apply pw_below_drewN | apply below_drew1) | exact HB.out)⟩⟩
             ·rw [if_neg c20] at H
              exact absurd H (by simp)
            ·rw [if_neg c19] at H
             exact absurd H (by simp)
         case rest =>
          clear HC14
          try clear c1
          try clear p1
          try clear q1
          try clear hx1
          try clear c2
          try clear p2
          try clear c3
          try clear c3b0
          try clear c3b1
          try clear c4
          try clear c4b0
          try clear c4b1
          try clear c6
          try clear p6
          try clear c9
          try clear c9b0
          try clear c9b1
          try clear c11
          try clear c11b0
          try clear c12
          try clear c12b0
          try clear c13
          try clear c13b0
          try clear c13b1
          try clear p14
          try clear q14
          try clear hx14
          try clear p15
          try clear q15
          try clear hx15
          try clear q16
          try clear c17
          try clear c17b0
          try clear c18
          try clear c18b0
          try clear c19
          try clear c19b0
          try clear c20
          try clear c20b0
          try clear hx146_0
          try clear hx150_0
          try clear p146
          try clear p150
          try clear p2
          try clear q146
          try clear q150
          try clear q16
          obtain ⟨kq, x42_13, rfl, HA, HJ13, HO_5, HO_6, HB⟩ := hcut
          cases kq with
          | zero => exact absurd HA.out (by simp [opt_reached.j1])
          | succ kj13 =>
           have H := HA.out
           clear HA
           simp only [opt_reached.j1] at H
           by_cases c22 : x42_13 = true
           ·subst c22
            have H1 : (opt_reached.l0 kj13 l0 l1 x5_1 y147) = some r := by rw [if_pos rfl] at H; exact H
            clear H
            have H := H1
            clear H1
            have H' := Aside0.mk H
            clear H
            go_wp2
            go_roundg kj13
            case measure => have := HK1.out; have := HJ13.out; omega
            case rel => exact ⟨(x5_1), (y147), H', ⟨by have := HK1.out; have := HJ13.out; omega⟩, ⟨by (with_reducible repeat (first | apply Kd.R_alloc | apply Kd.R_drewN | apply Kd.R_drew)); exact HO_5.out⟩, ⟨by (with_reducible repeat (first | apply Kd.R_alloc | apply Kd.R_drewN | apply Kd.R_drew)); exact HO_6.out⟩, ⟨by repeat (first | (with_reducible first | exact HB.out | apply below_alloc | apply pw_below_drewN | apply below_drew1) | exact HB.out)⟩⟩
           ·replace c22 := Bool.eq_false_iff.mpr c22
            subst c22
            have H1 : (if 0 ≤ (rd x6_1 (ji10)) then (if (rd x6_1 (ji10)) < (x5_1.length : Int) then ((some (x5_1.set ((rd x6_1 (ji10)) : Int).toNat true : List Bool)).bind fun y151 => (if (rd x6_1 (ji10)) < (l0.length : Int) then (if ((rd_T35 l0 (rd x6_1 (ji10))).f0) = 4 then (if y147.length < 17592186044416 then (opt_reached.l0 kj13 l0 l1 y151 (y147 ++ [(rd_T35 l0 (rd x6_1 (ji10))).f1])) else (none)) else (if ((rd_T35 l0 (rd x6_1 (ji10))).f0) = 3 then (if y147.length < 17592186044416 then (opt_reached.l1 kj13 l0 l1 y151 (y147 ++ [(rd_T35 l0 (rd x6_1 (ji10))).f1]) l1 (l1.length : Int) 0) else (none)) else (if ((rd_T35 l0 (rd x6_1 (ji10))).f0) = 2 then (opt_reached.j3 kj13 l0 l1 y151 y147 (rd x6_1 (ji10)) ((rd_T35 l0 (rd x6_1 (ji10))).f0) (((rd_T35 l0 (rd x6_1 (ji10))).f0) == 2) ((rd_T35 l0 (rd x6_1 (ji10))).f0) ((rd_T35 l0 (rd x6_1 (ji10))).f1) ((rd_T35 l0 (rd x6_1 (ji10))).f2) ((rd_T35 l0 (rd x6_1 (ji10))).f3) ((rd_T35 l0 (rd x6_1 (ji10))).f4)) else (opt_reached.j3 kj13 l0 l1 y151 y147 (rd x6_1 (ji10)) ((rd_T35 l0 (rd x6_1 (ji10))).f0) (((rd_T35 l0 (rd x6_1 (ji10))).f0) == 16) ((rd_T35 l0 (rd x6_1 (ji10))).f0) ((rd_T35 l0 (rd x6_1 (ji10))).f1) ((rd_T35 l0 (rd x6_1 (ji10))).f2) ((rd_T35 l0 (rd x6_1 (ji10))).f3) ((rd_T35 l0 (rd x6_1 (ji10))).f4))))) else (none))) else (none)) else (none)) = some r := by rw [if_neg (show ¬ (false = true) by decide)] at H; exact H
            clear H
            have H := H1
            clear H1
            by_cases c23 : 0 ≤ (rd x6_1 (ji10))
            ·rw [if_pos c23] at H
             have c23b0 : decide (0 ≤ (rd x6_1 (ji10))) = true := decide_eq_true c23
             clear c23
             by_cases c24 : (rd x6_1 (ji10)) < (x5_1.length : Int)
             ·rw [if_pos c24] at H
              have c24b0 : decide ((rd x6_1 (ji10)) < (x5_1.length : Int)) = true := decide_eq_true c24
              clear c24
              obtain ⟨y151, hy151⟩ : ∃ y_ : List Bool, y_ = (x5_1.set ((rd x6_1 (ji10)) : Int).toNat true) := ⟨_, rfl⟩
              replace H : (if (rd x6_1 (ji10)) < (l0.length : Int) then (if ((rd_T35 l0 (rd x6_1 (ji10))).f0) = 4 then (if y147.length < 17592186044416 then (opt_reached.l0 kj13 l0 l1 y151 (y147 ++ [(rd_T35 l0 (rd x6_1 (ji10))).f1])) else (none)) else (if ((rd_T35 l0 (rd x6_1 (ji10))).f0) = 3 then (if y147.length < 17592186044416 then (opt_reached.l1 kj13 l0 l1 y151 (y147 ++ [(rd_T35 l0 (rd x6_1 (ji10))).f1]) l1 (l1.length : Int) 0) else (none)) else (if ((rd_T35 l0 (rd x6_1 (ji10))).f0) = 2 then (opt_reached.j3 kj13 l0 l1 y151 y147 (rd x6_1 (ji10)) ((rd_T35 l0 (rd x6_1 (ji10))).f0) (((rd_T35 l0 (rd x6_1 (ji10))).f0) == 2) ((rd_T35 l0 (rd x6_1 (ji10))).f0) ((rd_T35 l0 (rd x6_1 (ji10))).f1) ((rd_T35 l0 (rd x6_1 (ji10))).f2) ((rd_T35 l0 (rd x6_1 (ji10))).f3) ((rd_T35 l0 (rd x6_1 (ji10))).f4)) else (opt_reached.j3 kj13 l0 l1 y151 y147 (rd x6_1 (ji10)) ((rd_T35 l0 (rd x6_1 (ji10))).f0) (((rd_T35 l0 (rd x6_1 (ji10))).f0) == 16) ((rd_T35 l0 (rd x6_1 (ji10))).f0) ((rd_T35 l0 (rd x6_1 (ji10))).f1) ((rd_T35 l0 (rd x6_1 (ji10))).f2) ((rd_T35 l0 (rd x6_1 (ji10))).f3) ((rd_T35 l0 (rd x6_1 (ji10))).f4))))) else (none)) = some r := by first | (rw [hy151]; with_reducible exact H) | (have H2_ := (Option.bind_some _ _).symm.trans H; rw [hy151]; with_reducible exact H2_) | (have H2_ := (Option.bind_some _ _).symm.trans H; with_reducible exact H2_) | with_reducible exact H | (rw [hy151]; exact H) | exact H
              have Ny151 := Aside0.mk hy151
              clear hy151
              by_cases c26 : (rd x6_1 (ji10)) < (l0.length : Int)
              ·rw [if_pos c26] at H
               have c26b0 : decide ((rd x6_1 (ji10)) < (l0.length : Int)) = true := decide_eq_true c26
               clear c26
               by_cases c27 : ((rd_T35 l0 (rd x6_1 (ji10))).f0) = 4
               ·rw [if_pos c27] at H
                have c27b0 : (((rd_T35 l0 (rd x6_1 (ji10))).f0) == 4) = true := beq_iff_eq.mpr c27
                have c27b1 : (((rd_T35 l0 (rd x6_1 (ji10))).f0) != 4) = false := bne_eq_false_iff_eq.mpr c27
                clear c27
                by_cases c28 : y147.length < 17592186044416
                ·rw [if_pos c28] at H
                 have LMc28 := Aside0.mk c28
                 clear c28
                 obtain ⟨y154, hy154⟩ : ∃ y_ : List Int, y_ = (y147 ++ [(rd_T35 l0 (rd x6_1 (ji10))).f1]) := ⟨_, rfl⟩
                 replace H : (opt_reached.l0 kj13 l0 l1 y151 y154) = some r := by first | (rw [hy154]; with_reducible exact H) | (have H2_ := (Option.bind_some _ _).symm.trans H; rw [hy154]; with_reducible exact H2_) | (have H2_ := (Option.bind_some _ _).symm.trans H; with_reducible exact H2_) | with_reducible exact H | (rw [hy154]; exact H) | exact H
                 have Ny154 := Aside0.mk hy154
                 clear hy154
                 have H' := Aside0.mk H
                 clear H
                 have p25 : 0 ≤ ((rd x6_1 (ji10)) : Int) := of_decide_eq_true (by first | (with_reducible assumption) | assumption)
                 have q25 : ((rd x6_1 (ji10)) : Int) < ((x5_1.length : Int) : Int) := of_decide_eq_true (by first | (with_reducible assumption) | assumption)
                 obtain ⟨go25, co25, eo25, gb25, gl25, cl25, HG25⟩ := Kd.R_form HO_5.out (by omega)
                 (first | cases eo25 | (injection eo25 with ea_ en_ ec_; (first | subst ea_ | (injection ea_ with ea_; subst ea_)); subst ec_; clear en_))
                 have GB25 := Aside0.mk gb25
                 have GG25 := Aside0.mk HG25
                 clear gb25 gl25 HG25
                 obtain ⟨hx25_0, hf25_0⟩ := Kd.R_celln false HO_5.out ((rd x6_1 (ji10)) : Int) p25 q25
                 replace p25 := eq_true p25
                 replace q25 := eq_true q25
                 have HP29 := Kd.R_putg HO_5.out ((rd x6_1 (ji10)) : Int) true
                 go_wp2_with (first | ((with_reducible refine gate_store (t := 4) (p := 45) rfl ?_); refine store_event (t := 4) (p := 45) (v := ?vo_w30) (w1 := (wc.setCell ⟨go25, ((rd x6_1 (ji10)) : Int).toNat, none⟩ (.bool true))) ?hg ?ho ?hn ?hr ?_; (case ho => rfl); (case hg => rfl); (case hn => rfl); (case hr => first | (go_simp; done) | (go_simp; rfl)); intro w30 hw; have hg : wc.grownBy w30 (some go25) := (by rw [hw]; exact HP29.2); have hp_ : Kd.R Kd.bool 4 w30 w.heap.size (fun _ => True) (.slice (some ⟨go25, 0, none⟩) x5_1.length co25) y151 := (by rw [hw, Ny151.out]; exact HP29.1); clear HP29; have n0_ := Aside0.mk (hp_); have n1_ := Aside0.mk (Kd.R_over' (v := (.slice (some ⟨go25, 0, none⟩) x5_1.length co25)) (by (with_reducible repeat (first | apply Kd.R_alloc | apply Kd.R_drewN | apply Kd.R_drew)); exact HO_6.out) (Kd.R_typed HO_5.out) (by decide) hg); have n2_ := Aside0.mk ((by rw [hw]; exact below_set (HB.out) GB25.out : Below w.heap.size w w30)); clear HO_5; clear HO_6; clear HB; have HO_5 := n0_; have HO_6 := n1_; have HB := n2_; clear n0_ n1_ n2_; clear hg hw hp_; have p152 : 0 ≤ ((rd x6_1 (ji10)) : Int) := of_decide_eq_true (by first | (with_reducible assumption) | assumption); have q152 : (rd x6_1 (ji10)) < (l0.length : Int) := of_decide_eq_true (by first | (with_reducible assumption) | assumption); obtain ⟨ad152, e152, hx152_0, hx152_1, hx152_2, hx152_3, hx152_4⟩ := at_T35 HR0.out (rd x6_1 (ji10)) p152 q152; cases e152; replace hx152_0 := (HB.out.cell (World.block_lt_of_cell? w _ hx152_0)).trans hx152_0; replace hx152_1 := (HB.out.cell (World.block_lt_of_cell? w _ hx152_1)).trans hx152_1; replace hx152_2 := (HB.out.cell (World.block_lt_of_cell? w _ hx152_2)).trans hx152_2; replace hx152_3 := (HB.out.cell (World.block_lt_of_cell? w _ hx152_3)).trans hx152_3; replace hx152_4 := (HB.out.cell (World.block_lt_of_cell? w _ hx152_4)).trans hx152_4; replace p152 := eq_true p152; replace q152 := eq_true q152) | ((with_reducible refine gate_dst (N := 8) rfl ?_); (try (refine gate_guard (by rfl) ?_; dsimp only)); refine box_event ?hg (N := 8) ?hd (cs := #[.int .i64 0, .int .i64 0, .int .i64 0, .int .i64 0, .int .i64 0]) (t := 35) ?hr ?_; (case hd => rfl); (case hg => rfl); (case hr => first | (go_simp; done) | (go_simp; rfl)); intro gb153 hg w31 hbox hb; have n0_ := Aside0.mk (Kd.R_below (by (with_reducible repeat (first | apply Kd.R_alloc | apply Kd.R_drewN | apply Kd.R_drew)); exact HO_5.out) hb); have n1_ := Aside0.mk (Kd.R_below (by (with_reducible repeat (first | apply Kd.R_alloc | apply Kd.R_drewN | apply Kd.R_drew)); exact HO_6.out) hb); have n2_ := Aside0.mk (below_step (by repeat (first | (with_reducible first | exact HB.out | apply below_alloc | apply pw_below_drewN | apply below_drew1) | exact HB.out)) hb); have n3_ := Aside0.mk (hbox); have n4_ := Aside0.mk ((by rw [hg]; exact (below_size (by repeat (first | (with_reducible first | exact HB.out | apply below_alloc | apply pw_below_drewN | apply below_drew1) | exact HB.out))) : w.heap.size ≤ gb153)); have n5_ := Aside0.mk ((by rw [hg]; exact (below_size (by repeat (first | (with_reducible first | exact HB.out | apply below_alloc | apply pw_below_drewN | apply below_drew1) | exact HB.out))) : w.heap.size ≤ gb153)); clear HO_5; clear HO_6; clear HB; have HO_5 := n0_; have HO_6 := n1_; have HB := n2_; have BK153 := n3_; have GW153 := n4_; have GE153 := n5_; clear n0_ n1_ n2_ n3_ n4_ n5_; clear hb hbox hg; have hcz32_0 : w31.cell? ⟨gb153, 0, none⟩ = some (.int .i64 0) := (blk_cell BK153.out 0).trans rfl; have hcz32_1 : w31.cell? ⟨gb153, 1, none⟩ = some (.int .i64 0) := (blk_cell BK153.out 1).trans rfl; have hcz32_2 : w31.cell? ⟨gb153, 2, none⟩ = some (.int .i64 0) := (blk_cell BK153.out 2).trans rfl; have hcz32_3 : w31.cell? ⟨gb153, 3, none⟩ = some (.int .i64 0) := (blk_cell BK153.out 3).trans rfl; have hcz32_4 : w31.cell? ⟨gb153, 4, none⟩ = some (.int .i64 0) := (blk_cell BK153.out 4).trans rfl; have hfz32_0 := blk_frozen BK153.out 0; have hfz32_1 := blk_frozen BK153.out 1; have hfz32_2 := blk_frozen BK153.out 2; have hfz32_3 := blk_frozen BK153.out 3; have hfz32_4 := blk_frozen BK153.out 4) | ((with_reducible refine gate_builtin (b := .append) (xs := #[.tmp 59, .tmp 62]) rfl ?_); (try (refine gate_guard (by rfl) ?_; dsimp only)); at_builtin; refine Kd.R_append (Kd.int .i64) (w0 := w) w.heap.size rfl (.tmp 59) (.tmp 62) 78 3 (.int .i64 0) 8 rfl Try.underlying78 info3 rfl (by decide) (by omega) (.slice (some ad146) y147.length co15) y147 ((rd_T35 l0 (rd x6_1 (ji10))).f1) [.int .i64 ((rd_T35 l0 (rd x6_1 (ji10))).f1)] (fun _ => True) (fun _ => False) rfl (by first | (go_simp; done) | (go_simp; rfl)) ?aP (fun _ hk => hk.elim) ?aF ?aO ?aB ?aS ?aL ?_; (case aP => exact rfl); (case aB => exact (by repeat (first | (with_reducible first | exact HB.out | apply below_alloc | apply pw_below_drewN | apply below_drew1 | refine below_set ?_ GE153.out) | exact HB.out))); (case aF => exact (fun _ _ => trivial)); (case aO => exact (by (with_reducible repeat (first | apply Kd.R_alloc | apply Kd.R_drewN | apply Kd.R_drew)); exact Kd.R_mono (Kd.R_far (p := ⟨gb153, 4, none⟩) (Kd.R_far (p := ⟨gb153, 3, none⟩) (Kd.R_far (p := ⟨gb153, 2, none⟩) (Kd.R_far (p := ⟨gb153, 1, none⟩) (Kd.R_far (p := ⟨gb153, 0, none⟩) (Kd.R_types HO_6.out BK153.out (by decide)) (fun _ hk => hk.2) (.int .i64 ((rd_T35 l0 (rd x6_1 (ji10))).f0))) (fun _ hk => hk.2) (.int .i64 ((rd_T35 l0 (rd x6_1 (ji10))).f1))) (fun _ hk => hk.2) (.int .i64 ((rd_T35 l0 (rd x6_1 (ji10))).f2))) (fun _ hk => hk.2) (.int .i64 ((rd_T35 l0 (rd x6_1 (ji10))).f3))) (fun _ hk => hk.2) (.int .i64 ((rd_T35 l0 (rd x6_1 (ji10))).f4))) (fun _ hk => trivial))); (case aS => exact (below_size (by repeat (first | (with_reducible first | exact HB.out | apply below_alloc | apply pw_below_drewN | apply below_drew1 | refine below_set ?_ GE153.out) | exact HB.out)))); (case aL => have := LMc28.out; omega); intro v155 w33 ho hb hg hat; rw [← Ny154.out] at ho; have n0_ := Aside0.mk (Kd.R_over' (by (with_reducible repeat (first | apply Kd.R_alloc | apply Kd.R_drewN | apply Kd.R_drew)); exact (Kd.R_mono (Kd.R_far (p := ⟨gb153, 4, none⟩) (Kd.R_far (p := ⟨gb153, 3, none⟩) (Kd.R_far (p := ⟨gb153, 2, none⟩) (Kd.R_far (p := ⟨gb153, 1, none⟩) (Kd.R_far (p := ⟨gb153, 0, none⟩) (Kd.R_types HO_5.out BK153.out (by decide)) (fun _ hk => hk.2) (.int .i64 ((rd_T35 l0 (rd x6_1 (ji10))).f0))) (fun _ hk => hk.2) (.int .i64 ((rd_T35 l0 (rd x6_1 (ji10))).f1))) (fun _ hk => hk.2) (.int .i64 ((rd_T35 l0 (rd x6_1 (ji10))).f2))) (fun _ hk => hk.2) (.int .i64 ((rd_T35 l0 (rd x6_1 (ji10))).f3))) (fun _ hk => hk.2) (.int .i64 ((rd_T35 l0 (rd x6_1 (ji10))).f4))) (fun _ h_ => h_.1))) (Kd.R_typed (by (with_reducible repeat (first | apply Kd.R_alloc | apply Kd.R_drewN | apply Kd.R_drew)); exact (Kd.R_mono (Kd.R_far (p := ⟨gb153, 4, none⟩) (Kd.R_far (p := ⟨gb153, 3, none⟩) (Kd.R_far (p := ⟨gb153, 2, none⟩) (Kd.R_far (p := ⟨gb153, 1, none⟩) (Kd.R_far (p := ⟨gb153, 0, none⟩) (Kd.R_types HO_6.out BK153.out (by decide)) (fun _ hk => hk.2) (.int .i64 ((rd_T35 l0 (rd x6_1 (ji10))).f0))) (fun _ hk => hk.2) (.int .i64 ((rd_T35 l0 (rd x6_1 (ji10))).f1))) (fun _ hk => hk.2) (.int .i64 ((rd_T35 l0 (rd x6_1 (ji10))).f2))) (fun _ hk => hk.2) (.int .i64 ((rd_T35 l0 (rd x6_1 (ji10))).f3))) (fun _ hk => hk.2) (.int .i64 ((rd_T35 l0 (rd x6_1 (ji10))).f4))) (fun _ h_ => h_.1)))) (by decide) hg); have n1_ := Aside0.mk (blk_grown (g := gb153) (o := .cells #[.int .i64 ((rd_T35 l0 (rd x6_1 (ji10))).f0), .int .i64 ((rd_T35 l0 (rd x6_1 (ji10))).f1), .int .i64 ((rd_T35 l0 (rd x6_1 (ji10))).f2), .int .i64 ((rd_T35 l0 (rd x6_1 (ji10))).f3), .int .i64 ((rd_T35 l0 (rd x6_1 (ji10))).f4)] 35 (0, 0)) (by (with_reducible repeat (first | refine blk_drewN ?_ _ | refine blk_drew ?_ | refine blk_alloc ?_ _)); refine blk_put (cs := #[.int .i64 ((rd_T35 l0 (rd x6_1 (ji10))).f0), .int .i64 ((rd_T35 l0 (rd x6_1 (ji10))).f1), .int .i64 ((rd_T35 l0 (rd x6_1 (ji10))).f2), .int .i64 ((rd_T35 l0 (rd x6_1 (ji10))).f3), .int .i64 0]) ?_ 4 _ rfl; (with_reducible repeat (first | refine blk_drewN ?_ _ | refine blk_drew ?_ | refine blk_alloc ?_ _)); refine blk_put (cs := #[.int .i64 ((rd_T35 l0 (rd x6_1 (ji10))).f0), .int .i64 ((rd_T35 l0 (rd x6_1 (ji10))).f1), .int .i64 ((rd_T35 l0 (rd x6_1 (ji10))).f2), .int .i64 0, .int .i64 0]) ?_ 3 _ rfl; (with_reducible repeat (first | refine blk_drewN ?_ _ | refine blk_drew ?_ | refine blk_alloc ?_ _)); refine blk_put (cs := #[.int .i64 ((rd_T35 l0 (rd x6_1 (ji10))).f0), .int .i64 ((rd_T35 l0 (rd x6_1 (ji10))).f1), .int .i64 0, .int .i64 0, .int .i64 0]) ?_ 2 _ rfl; (with_reducible repeat (first | refine blk_drewN ?_ _ | refine blk_drew ?_ | refine blk_alloc ?_ _)); refine blk_put (cs := #[.int .i64 ((rd_T35 l0 (rd x6_1 (ji10))).f0), .int .i64 0, .int .i64 0, .int .i64 0, .int .i64 0]) ?_ 1 _ rfl; (with_reducible repeat (first | refine blk_drewN ?_ _ | refine blk_drew ?_ | refine blk_alloc ?_ _)); refine blk_put (cs := #[.int .i64 0, .int .i64 0, .int .i64 0, .int .i64 0, .int .i64 0]) ?_ 0 _ rfl; (with_reducible repeat (first | refine blk_drewN ?_ _ | refine blk_drew ?_ | refine blk_alloc ?_ _)); exact BK153.out) hg (Kd.R_ne HO_6.out BK153.out (by decide))); have n2_ := Aside0.mk (hb); have n3_ := Aside0.mk (ho); clear HO_5; clear BK153; clear HB; clear HO_6; have HO_5 := n0_; have BK153 := n1_; have HB := n2_; have HO156 := n3_; clear n0_ n1_ n2_ n3_; clear ho hb hg hat))
                 go_roundg kj13
                 case measure => have := HK1.out; have := HJ13.out; omega
                 case rel => exact ⟨(y151), (y154), H', ⟨by have := HK1.out; have := HJ13.out; omega⟩, ⟨by (with_reducible repeat (first | apply Kd.R_alloc | apply Kd.R_drewN | apply Kd.R_drew)); exact HO_5.out⟩, ⟨by (with_reducible repeat (first | apply Kd.R_alloc | apply Kd.R_drewN | apply Kd.R_drew)); exact HO156.out⟩, ⟨by repeat (first | (with_reducible first | exact HB.out | apply below_alloc | apply pw_below_drewN | apply below_drew1 | refine below_set ?_ GE153.out) | exact HB.out)⟩⟩
                ·rw [if_neg c28] at H
                 exact absurd H (by simp)
               ·rw [if_neg c27] at H
                have c27b0 : (((rd_T35 l0 (rd x6_1 (ji10))).f0) == 4) = false := beq_eq_false_iff_ne.mpr c27
                have c27b1 : (((rd_T35 l0 (rd x6_1 (ji10))).f0) != 4) = true := bne_iff_ne.mpr c27
                by_cases c34 : ((rd_T35 l0 (rd x6_1 (ji10))).f0) = 3
                ·rw [if_pos c34] at H
                 have c34b0 : (((rd_T35 l0 (rd x6_1 (ji10))).f0) == 3) = true := beq_iff_eq.mpr c34
                 have c34b1 : (((rd_T35 l0 (rd x6_1 (ji10))).f0) != 3) = false := bne_eq_false_iff_eq.mpr c34
                 clear c34
                 by_cases c35 : y147.length < 17592186044416
                 ·rw [if_pos c35] at H
                  have LMc35 := Aside0.mk c35
                  clear c35
                  obtain ⟨y157, hy157⟩ : ∃ y_ : List Int, y_ = (y147 ++ [(rd_T35 l0 (rd x6_1 (ji10))).f1]) := ⟨_, rfl⟩
                  replace H : (opt_reached.l1 kj13 l0 l1 y151 y157 l1 (l1.length : Int) 0) = some r := by first | (rw [hy157]; with_reducible exact H) | (have H2_ := (Option.bind_some _ _).symm.trans H; rw [hy157]; with_reducible exact H2_) | (have H2_ := (Option.bind_some _ _).symm.trans H; with_reducible exact H2_) | with_reducible exact H | (rw [hy157]; exact H) | exact H
                  have Ny157 := Aside0.mk hy157
                  clear hy157
                  have H' := Aside0.mk H
                  clear H
                  have p25 : 0 ≤ ((rd x6_1 (ji10)) : Int) := of_decide_eq_true (by first | (with_reducible assumption) | assumption)
                  have q25 : ((rd x6_1 (ji10)) : Int) < ((x5_1.length : Int) : Int) := of_decide_eq_true (by first | (with_reducible assumption) | assumption)
                  obtain ⟨go25, co25, eo25, gb25, gl25, cl25, HG25⟩ := Kd.R_form HO_5.out (by omega)
                  (first | cases eo25 | (injection eo25 with ea_ en_ ec_; (first | subst ea_ | (injection ea_ with ea_; subst ea_)); subst ec_; clear en_))
                  have GB25 := Aside0.mk gb25
                  have GG25 := Aside0.mk HG25
                  clear gb25 gl25 HG25
                  obtain ⟨hx25_0, hf25_0⟩ := Kd.R_celln false HO_5.out ((rd x6_1 (ji10)) : Int) p25 q25
                  replace p25 := eq_true p25
                  replace q25 := eq_true q25
                  have HP36 := Kd.R_putg HO_5.out ((rd x6_1 (ji10)) : Int) true
                  go_wp2_with (first | ((with_reducible refine gate_store (t := 4) (p := 45) rfl ?_); refine store_event (t := 4) (p := 45) (v := ?vo_w37) (w1 := (wc.setCell ⟨go25, ((rd x6_1 (ji10)) : Int).toNat, none⟩ (.bool true))) ?hg ?ho ?hn ?hr ?_; (case ho => rfl); (case hg => rfl); (case hn => rfl); (case hr => first | (go_simp; done) | (go_simp; rfl)); intro w37 hw; have hg : wc.grownBy w37 (some go25) := (by rw [hw]; exact HP36.2); have hp_ : Kd.R Kd.bool 4 w37 w.heap.size (fun _ => True) (.slice (some ⟨go25, 0, none⟩) x5_1.length co25) y151 := (by rw [hw, Ny151.out]; exact HP36.1); clear HP36; have n0_ := Aside0.mk (hp_); have n1_ := Aside0.mk (Kd.R_over' (v := (.slice (some ⟨go25, 0, none⟩) x5_1.length co25)) (by (with_reducible repeat (first | apply Kd.R_alloc | apply Kd.R_drewN | apply Kd.R_drew)); exact HO_6.out) (Kd.R_typed HO_5.out) (by decide) hg); have n2_ := Aside0.mk ((by rw [hw]; exact below_set (HB.out) GB25.out : Below w.heap.size w w37)); clear HO_5; clear HO_6; clear HB; have HO_5 := n0_; have HO_6 := n1_; have HB := n2_; clear n0_ n1_ n2_; clear hg hw hp_; have p152 : 0 ≤ ((rd x6_1 (ji10)) : Int) := of_decide_eq_true (by first | (with_reducible assumption) | assumption); have q152 : (rd x6_1 (ji10)) < (l0.length : Int) := of_decide_eq_true (by first | (with_reducible assumption) | assumption); obtain ⟨ad152, e152, hx152_0, hx152_1, hx152_2, hx152_3, hx152_4⟩ := at_T35 HR0.out (rd x6_1 (ji10)) p152 q152; cases e152; replace hx152_0 := (HB.out.cell (World.block_lt_of_cell? w _ hx152_0)).trans hx152_0; replace hx152_1 := (HB.out.cell (World.block_lt_of_cell? w _ hx152_1)).trans hx152_1; replace hx152_2 := (HB.out.cell (World.block_lt_of_cell? w _ hx152_2)).trans hx152_2; replace hx152_3 := (HB.out.cell (World.block_lt_of_cell? w _ hx152_3)).trans hx152_3; replace hx152_4 := (HB.out.cell (World.block_lt_of_cell? w _ hx152_4)).trans hx152_4; replace p152 := eq_true p152; replace q152 := eq_true q152) | ((with_reducible refine gate_dst (N := 8) rfl ?_); (try (refine gate_guard (by rfl) ?_; dsimp only)); refine box_event ?hg (N := 8) ?hd (cs := #[.int .i64 0, .int .i64 0, .int .i64 0, .int .i64 0, .int .i64 0]) (t := 35) ?hr ?_; (case hd => rfl); (case hg => rfl); (case hr => first | (go_simp; done) | (go_simp; rfl)); intro gb153 hg w38 hbox hb; have n0_ := Aside0.mk (Kd.R_below (by (with_reducible repeat (first | apply Kd.R_alloc | apply Kd.R_drewN | apply Kd.R_drew)); exact HO_5.out) hb); have n1_ := Aside0.mk (Kd.R_below (by (with_reducible repeat (first | apply Kd.R_alloc | apply Kd.R_drewN | apply Kd.R_drew)); exact HO_6.out) hb); have n2_ := Aside0.mk (below_step (by repeat (first | (with_reducible first | exact HB.out | apply below_alloc | apply pw_below_drewN | apply below_drew1) | exact HB.out)) hb); have n3_ := Aside0.mk (hbox); have n4_ := Aside0.mk ((by rw [hg]; exact (below_size (by repeat (first | (with_reducible first | exact HB.out | apply below_alloc | apply pw_below_drewN | apply below_drew1) | exact HB.out))) : w.heap.size ≤ gb153)); have n5_ := Aside0.mk ((by rw [hg]; exact (below_size (by repeat (first | (with_reducible first | exact HB.out | apply below_alloc | apply pw_below_drewN | apply below_drew1) | exact HB.out))) : w.heap.size ≤ gb153)); clear HO_5; clear HO_6; clear HB; have HO_5 := n0_; have HO_6 := n1_; have HB := n2_; have BK153 := n3_; have GW153 := n4_; have GE153 := n5_; clear n0_ n1_ n2_ n3_ n4_ n5_; clear hb hbox hg; have hcz39_0 : w38.cell? ⟨gb153, 0, none⟩ = some (.int .i64 0) := (blk_cell BK153.out 0).trans rfl; have hcz39_1 : w38.cell? ⟨gb153, 1, none⟩ = some (.int .i64 0) := (blk_cell BK153.out 1).trans rfl; have hcz39_2 : w38.cell? ⟨gb153, 2, none⟩ = some (.int .i64 0) := (blk_cell BK153.out 2).trans rfl; have hcz39_3 : w38.cell? ⟨gb153, 3, none⟩ = some (.int .i64 0) := (blk_cell BK153.out 3).trans rfl; have hcz39_4 : w38.cell? ⟨gb153, 4, none⟩ = some (.int .i64 0) := (blk_cell BK153.out 4).trans rfl; have hfz39_0 := blk_frozen BK153.out 0; have hfz39_1 := blk_frozen BK153.out 1; have hfz39_2 := blk_frozen BK153.out 2; have hfz39_3 := blk_frozen BK153.out 3; have hfz39_4 := blk_frozen BK153.out 4) | ((with_reducible refine gate_builtin (b := .append) (xs := #[.tmp 66, .tmp 69]) rfl ?_); (try (refine gate_guard (by rfl) ?_; dsimp only)); at_builtin; refine Kd.R_append (Kd.int .i64) (w0 := w) w.heap.size rfl (.tmp 66) (.tmp 69) 78 3 (.int .i64 0) 8 rfl Try.underlying78 info3 rfl (by decide) (by omega) (.slice (some ad146) y147.length co15) y147 ((rd_T35 l0 (rd x6_1 (ji10))).f1) [.int .i64 ((rd_T35 l0 (rd x6_1 (ji10))).f1)] (fun _ => True) (fun _ => False) rfl (by first | (go_simp; done) | (go_simp; rfl)) ?aP (fun _ hk => hk.elim) ?aF ?aO ?aB ?aS ?aL ?_; (case aP => exact rfl); (case aB => exact (by repeat (first | (with_reducible first | exact HB.out | apply below_alloc | apply pw_below_drewN | apply below_drew1 | refine below_set ?_ GE153.out) | exact HB.out))); (case aF => exact (fun _ _ => trivial)); (case aO => exact (by (with_reducible repeat (first | apply Kd.R_alloc | apply Kd.R_drewN | apply Kd.R_drew)); exact Kd.R_mono (Kd.R_far (p := ⟨gb153, 4, none⟩) (Kd.R_far (p := ⟨gb153, 3, none⟩) (Kd.R_far (p := ⟨gb153, 2, none⟩) (Kd.R_far (p := ⟨gb153, 1, none⟩) (Kd.R_far (p := ⟨gb153, 0, none⟩) (Kd.R_types HO_6.out BK153.out (by decide)) (fun _ hk => hk.2) (.int .i64 ((rd_T35 l0 (rd x6_1 (ji10))).f0))) (fun _ hk => hk.2) (.int .i64 ((rd_T35 l0 (rd x6_1 (ji10))).f1))) (fun _ hk => hk.2) (.int .i64 ((rd_T35 l0 (rd x6_1 (ji10))).f2))) (fun _ hk => hk.2) (.int .i64 ((rd_T35 l0 (rd x6_1 (ji10))).f3))) (fun _ hk => hk.2) (.int .i64 ((rd_T35 l0 (rd x6_1 (ji10))).f4))) (fun _ hk => trivial))); (case aS => exact (below_size (by repeat (first | (with_reducible first | exact HB.out | apply below_alloc | apply pw_below_drewN | apply below_drew1 | refine below_set ?_ GE153.out) | exact HB.out)))); (case aL => have := LMc35.out; omega); intro v158 w40 ho hb hg hat; rw [← Ny157.out] at ho; have n0_ := Aside0.mk (Kd.R_over' (by (with_reducible repeat (first | apply Kd.R_alloc | apply Kd.R_drewN | apply Kd.R_drew)); exact (Kd.R_mono (Kd.R_far (p := ⟨gb153, 4, none⟩) (Kd.R_far (p := ⟨gb153, 3, none⟩) (Kd.R_far (p := ⟨gb153, 2, none⟩) (Kd.R_far (p := ⟨gb153, 1, none⟩) (Kd.R_far (p := ⟨gb153, 0, none⟩) (Kd.R_types HO_5.out BK153.out (by decide)) (fun _ hk => hk.2) (.int .i64 ((rd_T35 l0 (rd x6_1 (ji10))).f0))) (fun _ hk => hk.2) (.int .i64 ((rd_T35 l0 (rd x6_1 (ji10))).f1))) (fun _ hk => hk.2) (.int .i64 ((rd_T35 l0 (rd x6_1 (ji10))).f2))) (fun _ hk => hk.2) (.int .i64 ((rd_T35 l0 (rd x6_1 (ji10))).f3))) (fun _ hk => hk.2) (.int .i64 ((rd_T35 l0 (rd x6_1 (ji10))).f4))) (fun _ h_ => h_.1))) (Kd.R_typed (by (with_reducible repeat (first | apply Kd.R_alloc | apply Kd.R_drewN | apply Kd.R_drew)); exact (Kd.R_mono (Kd.R_far (p := ⟨gb153, 4, none⟩) (Kd.R_far (p := ⟨gb153, 3, none⟩) (Kd.R_far (p := ⟨gb153, 2, none⟩) (Kd.R_far (p := ⟨gb153, 1, none⟩) (Kd.R_far (p := ⟨gb153, 0, none⟩) (Kd.R_types HO_6.out BK153.out (by decide)) (fun _ hk => hk.2) (.int .i64 ((rd_T35 l0 (rd x6_1 (ji10))).f0))) (fun _ hk => hk.2) (.int .i64 ((rd_T35 l0 (rd x6_1 (ji10))).f1))) (fun _ hk => hk.2) (.int .i64 ((rd_T35 l0 (rd x6_1 (ji10))).f2))) (fun _ hk => hk.2) (.int .i64 ((rd_T35 l0 (rd x6_1 (ji10))).f3))) (fun _ hk => hk.2) (.int .i64 ((rd_T35 l0 (rd x6_1 (ji10))).f4))) (fun _ h_ => h_.1)))) (by decide) hg); have n1_ := Aside0.mk (blk_grown (g := gb153) (o := .cells #[.int .i64 ((rd_T35 l0 (rd x6_1 (ji10))).f0), .int .i64 ((rd_T35 l0 (rd x6_1 (ji10))).f1), .int .i64 ((rd_T35 l0 (rd x6_1 (ji10))).f2), .int .i64 ((rd_T35 l0 (rd x6_1 (ji10))).f3), .int .i64 ((rd_T35 l0 (rd x6_1 (ji10))).f4)] 35 (0, 0)) (by (with_reducible repeat (first | refine blk_drewN ?_ _ | refine blk_drew ?_ | refine blk_alloc ?_ _)); refine blk_put (cs := #[.int .i64 ((rd_T35 l0 (rd x6_1 (ji10))).f0), .int .i64 ((rd_T35 l0 (rd x6_1 (ji10))).f1), .int .i64 ((rd_T35 l0 (rd x6_1 (ji10))).f2), .int .i64 ((rd_T35 l0 (rd x6_1 (ji10))).f3), .int .i64 0]) ?_ 4 _ rfl; (with_reducible repeat (first | refine blk_drewN ?_ _ | refine blk_drew ?_ | refine blk_alloc ?_ _)); refine blk_put (cs := #[.int .i64 ((rd_T35 l0 (rd x6_1 (ji10))).f0), .int .i64 ((rd_T35 l0 (rd x6_1 (ji10))).f1), .int .i64 ((rd_T35 l0 (rd x6_1 (ji10))).f2), .int .i64 0, .int .i64 0]) ?_ 3 _ rfl; (with_reducible repeat (first | refine blk_drewN ?_ _ | refine blk_drew ?_ | refine blk_alloc ?_ _)); refine blk_put (cs := #[.int .i64 ((rd_T35 l0 (rd x6_1 (ji10))).f0), .int .i64 ((rd_T35 l0 (rd x6_1 (ji10))).f1), .int .i64 0, .int .i64 0, .int .i64 0]) ?_ 2 _ rfl; (with_reducible repeat (first | refine blk_drewN ?_ _ | refine blk_drew ?_ | refine blk_alloc ?_ _)); refine blk_put (cs := #[.int .i64 ((rd_T35 l0 (rd x6_1 (ji10))).f0), .int .i64 0, .int .i64 0, .int .i64 0, .int .i64 0]) ?_ 1 _ rfl; (with_reducible repeat (first | refine blk_drewN ?_ _ | refine blk_drew ?_ | refine blk_alloc ?_ _)); refine blk_put (cs := #[.int .i64 0, .int .i64 0, .int .i64 0, .int .i64 0, .int .i64 0]) ?_ 0 _ rfl; (with_reducible repeat (first | refine blk_drewN ?_ _ | refine blk_drew ?_ | refine blk_alloc ?_ _)); exact BK153.out) hg (Kd.R_ne HO_6.out BK153.out (by decide))); have n2_ := Aside0.mk (hb); have n3_ := Aside0.mk (ho); clear HO_5; clear BK153; clear HB; clear HO_6; have HO_5 := n0_; have BK153 := n1_; have HB := n2_; have HO159 := n3_; clear n0_ n1_ n2_ n3_; clear ho hb hg hat))
                  go_loopg [6, 73] kj13 (fun kq v6 v73 w' => ∃ (x6_3 : List Int) (x73_3 : Int), v73 = .int .i64 x73_3 ∧ Aside0 (opt_reached.l1 kq l0 l1 y151 x6_3 l1 (l1.length : Int) x73_3 = some r) ∧ Aside0 (kq ≤ kj13) ∧ Aside0 (Kd.R Kd.bool 4 w' w.heap.size (fun _ => True) (.slice (some ⟨go25, 0, none⟩) x5_1.length co25) y151) ∧ Aside0 (Kd.R (Kd.int .i64) 3 w' w.heap.size (fun _ => True) v6 x6_3) ∧ Aside0 (w'.heap[gb153]? = some (.cells #[.int .i64 ((rd_T35 l0 (rd x6_1 (ji10))).f0), .int .i64 ((rd_T35 l0 (rd x6_1 (ji10))).f1), .int .i64 ((rd_T35 l0 (rd x6_1 (ji10))).f2), .int .i64 ((rd_T35 l0 (rd x6_1 (ji10))).f3), .int .i64 ((rd_T35 l0 (rd x6_1 (ji10))).f4)] 35 (0, 0))) ∧ Aside0 (Below w.heap.size w w'))
                  case atStart => exact ⟨(y157), (0), (by first | rfl | (simp; done) | (simp [*]; done)), H', ⟨Nat.le_refl _⟩, ⟨by (with_reducible repeat (first | apply Kd.R_alloc | apply Kd.R_drewN | apply Kd.R_drew)); exact HO_5.out⟩, ⟨by (with_reducible repeat (first | apply Kd.R_alloc | apply Kd.R_drewN | apply Kd.R_drew)); exact HO159.out⟩, ⟨by (with_reducible repeat (first | refine blk_drewN ?_ _ | refine blk_drew ?_ | refine blk_alloc ?_ _)); exact BK153.out⟩, ⟨by repeat (first | (with_reducible first | exact HB.out | apply below_alloc | apply pw_below_drewN | apply below_drew1 | refine below_set ?_ GE153.out) | exact HB.out)⟩⟩
                  case round =>
                   clear H'
                   try clear c1
                   try clear p1
                   try clear q1
                   try clear hx1
                   try clear c2
                   try clear p2
                   try clear q2
                   try clear hx2
                   try clear hf2
                   try clear c3
                   try clear c3b0
                   try clear c3b1
                   try clear c4
                   try clear c4b0
                   try clear c4b1
                   try clear c6
                   try clear p6
                   try clear c9
                   try clear c9b0
                   try clear c9b1
                   try clear c11
                   try clear c11b0
                   try clear c12
                   try clear c12b0
                   try clear c13
                   try clear c13b0
                   try clear c13b1
                   try clear p14
                   try clear q14
                   try clear hx14
                   try clear p15
                   try clear q15
                   try clear hx15
                   try clear q16
                   try clear c17
                   try clear c17b0
                   try clear c18
                   try clear c18b0
                   try clear c19
                   try clear c19b0
                   try clear c20
                   try clear c20b0
                   try clear c22
                   try clear c23
                   try clear c23b0
                   try clear c24
                   try clear c24b0
                   try clear p25
                   try clear q25
                   try clear hx25
                   try clear hf25
                   try clear c26
                   try clear c26b0
                   try clear c27
                   try clear c27b0
                   try clear c27b1
                   try clear c28
                   try clear c34
                   try clear c34b0
                   try clear c34b1
                   try clear c35
                   try clear hcz32_0
                   try clear hcz32_1
                   try clear hcz32_2
                   try clear hcz32_3
                   try clear hcz32_4
                   try clear hcz39_0
                   try clear hcz39_1
                   try clear hcz39_2
                   try clear hcz39_3
                   try clear hcz39_4
                   try clear hfz32_0
                   try clear hfz32_1
                   try clear hfz32_2
                   try clear hfz32_3
                   try clear hfz32_4
                   try clear hfz39_0
                   try clear hfz39_1
                   try clear hfz39_2
                   try clear hfz39_3
                   try clear hfz39_4
                   try clear hx146_0
                   try clear hx150_0
                   try clear hx152_0
                   try clear hx152_1
                   try clear hx152_2
                   try clear hx152_3
                   try clear hx152_4
                   try clear hx25_0
                   try clear p1
                   try clear p14
                   try clear p146
                   try clear p15
                   try clear p150
                   try clear p152
                   try clear p2
                   try clear p25
                   try clear p6
                   try clear q1
                   try clear q14
                   try clear q146
                   try clear q15
                   try clear q150
                   try clear q152
                   try clear q16
                   try clear q25
                   obtain ⟨x6_3, x73_3, rfl, HA, HK3, HO_5, HO_6, BK153, HB⟩ := hrel
                   have hl5_3 := (Kd.R_reads' HO_5.out).1
                   rw [hl5_3] at HO_5
                   (try simp only [hl5_3])
                   (try simp only [hl5_3] at BK153)
                   (try simp only [hl5_3] at HO_6)
                   cases gk with
                   | zero => exact absurd HA.out (by simp [opt_reached.l1])
                   | succ k3 =>
                    have H := HA.out
                    clear HA
                    simp only [opt_reached.l1] at H
                    by_cases c41 : x73_3 < (l1.length : Int)
                    ·rw [if_pos c41] at H
                     have c41b0 : decide (x73_3 < (l1.length : Int)) = true := decide_eq_true c41
                     clear c41
                     by_cases c42 : 0 ≤ x73_3
                     ·rw [if_pos c42] at H
                      have c42b0 : decide (0 ≤ x73_3) = true := decide_eq_true c42
                      clear c42
                      by_cases c43 : x73_3 < (l1.length : Int)
                      ·rw [if_pos c43] at H
                       have c43b0 : decide (x73_3 < (l1.length : Int)) = true := decide_eq_true c43
                       clear c43
                       by_cases c44 : x6_3.length < 17592186044416
                       ·rw [if_pos c44] at H
                        have LMc44 := Aside0.mk c44
                        clear c44
                        obtain ⟨y162, hy162⟩ : ∃ y_ : List Int, y_ = (x6_3 ++ [(rd_T37 l1 x73_3).f1]) := ⟨_, rfl⟩
                        replace H : (opt_reached.l1 k3 l0 l1 y151 y162 l1 (l1.length : Int) (wrap64 (x73_3 + 1))) = some r := by first | (rw [hy162]; with_reducible exact H) | (have H2_ := (Option.bind_some _ _).symm.trans H; rw [hy162]; with_reducible exact H2_) | (have H2_ := (Option.bind_some _ _).symm.trans H; with_reducible exact H2_) | with_reducible exact H | (rw [hy162]; exact H) | exact H
                        have Ny162 := Aside0.mk hy162
                        clear hy162
                        have H' := Aside0.mk H
                        clear H
                        have p160 : 0 ≤ (x73_3 : Int) := of_decide_eq_true (by first | (with_reducible assumption) | assumption)
                        have q160 : x73_3 < (l1.length : Int) := of_decide_eq_true (by first | (with_reducible assumption) | assumption)
                        obtain ⟨ad160, e160, hx160_0, hx160_1⟩ := at_T37 HR1.out x73_3 p160 q160
                        cases e160
                        replace hx160_0 := (HB.out.cell (World.block_lt_of_cell? w _ hx160_0)).trans hx160_0
                        replace hx160_1 := (HB.out.cell (World.block_lt_of_cell? w _ hx160_1)).trans hx160_1
                        replace p160 := eq_true p160
                        replace q160 := eq_true q160
                        go_wp2_with (first | ((with_reducible refine gate_dst (N := 10) rfl ?_); (try (refine gate_guard (by rfl) ?_; dsimp only)); refine box_event ?hg (N := 10) ?hd (cs := #[.int .i64 0, .int .i64 0]) (t := 37) ?hr ?_; (case hd => rfl); (case hg => rfl); (case hr => first | (go_simp; done) | (go_simp; rfl)); intro gb161 hg w45 hbox hb; have n0_ := Aside0.mk (Kd.R_below (by (with_reducible repeat (first | apply Kd.R_alloc | apply Kd.R_drewN | apply Kd.R_drew)); exact HO_5.out) hb); have n1_ := Aside0.mk (Kd.R_below (by (with_reducible repeat (first | apply Kd.R_alloc | apply Kd.R_drewN | apply Kd.R_drew)); exact HO_6.out) hb); have n2_ := Aside0.mk (blk_below (g := gb153) (o := .cells #[.int .i64 ((rd_T35 l0 (rd x6_1 (ji10))).f0), .int .i64 ((rd_T35 l0 (rd x6_1 (ji10))).f1), .int .i64 ((rd_T35 l0 (rd x6_1 (ji10))).f2), .int .i64 ((rd_T35 l0 (rd x6_1 (ji10))).f3), .int .i64 ((rd_T35 l0 (rd x6_1 (ji10))).f4)] 35 (0, 0)) (by (with_reducible repeat (first | refine blk_drewN ?_ _ | refine blk_drew ?_ | refine blk_alloc ?_ _)); exact BK153.out) hb); have n3_ := Aside0.mk (below_step (by repeat (first | (with_reducible first | exact HB.out | apply below_alloc | apply pw_below_drewN | apply below_drew1 | refine below_set ?_ GE153.out) | exact HB.out)) hb); have n4_ := Aside0.mk (hbox); have n5_ := Aside0.mk ((by rw [hg]; exact (below_size (by repeat (first | (with_reducible first | exact HB.out | apply below_alloc | apply pw_below_drewN | apply below_drew1 | refine below_set ?_ GE153.out) | exact HB.out))) : w.heap.size ≤ gb161)); have n6_ := Aside0.mk ((by rw [hg]; exact (below_size (by repeat (first | (with_reducible first | exact HB.out | apply below_alloc | apply pw_below_drewN | apply below_drew1 | refine below_set ?_ GE153.out) | exact HB.out))) : w.heap.size ≤ gb161)); have n7_ := Aside0.mk ((by rw [hg]; exact Nat.ne_of_lt (blk_lt (g := gb153) (o := .cells #[.int .i64 ((rd_T35 l0 (rd x6_1 (ji10))).f0), .int .i64 ((rd_T35 l0 (rd x6_1 (ji10))).f1), .int .i64 ((rd_T35 l0 (rd x6_1 (ji10))).f2), .int .i64 ((rd_T35 l0 (rd x6_1 (ji10))).f3), .int .i64 ((rd_T35 l0 (rd x6_1 (ji10))).f4)] 35 (0, 0)) (by (with_reducible repeat (first | refine blk_drewN ?_ _ | refine blk_drew ?_ | refine blk_alloc ?_ _)); exact BK153.out)) : gb153 ≠ gb161)); have n8_ := Aside0.mk ((by rw [hg]; exact Nat.ne_of_gt (blk_lt (g := gb153) (o := .cells #[.int .i64 ((rd_T35 l0 (rd x6_1 (ji10))).f0), .int .i64 ((rd_T35 l0 (rd x6_1 (ji10))).f1), .int .i64 ((rd_T35 l0 (rd x6_1 (ji10))).f2), .int .i64 ((rd_T35 l0 (rd x6_1 (ji10))).f3), .int .i64 ((rd_T35 l0 (rd x6_1 (ji10))).f4)] 35 (0, 0)) (by (with_reducible repeat (first | refine blk_drewN ?_ _ | refine blk_drew ?_ | refine blk_alloc ?_ _)); exact BK153.out)) : gb161 ≠ gb153)); clear HO_5; clear HO_6; clear BK153; clear HB; have HO_5 := n0_; have HO_6 := n1_; have BK153 := n2_; have HB := n3_; have BK161 := n4_; have GW161 := n5_; have GE161 := n6_; have NB153_161 := n7_; have NB161_153 := n8_; clear n0_ n1_ n2_ n3_ n4_ n5_ n6_ n7_ n8_; clear hb hbox hg; have hnb46 := NB161_153.out; have hnc46 := NB153_161.out; have hcz47_0 : w45.cell? ⟨gb161, 0, none⟩ = some (.int .i64 0) := (blk_cell BK161.out 0).trans rfl; have hcz47_1 : w45.cell? ⟨gb161, 1, none⟩ = some (.int .i64 0) := (blk_cell BK161.out 1).trans rfl; have hfz47_0 := blk_frozen BK161.out 0; have hfz47_1 := blk_frozen BK161.out 1) | ((with_reducible refine gate_builtin (b := .append) (xs := #[.tmp 77, .tmp 80]) rfl ?_); (try (refine gate_guard (by rfl) ?_; dsimp only)); at_builtin; refine Kd.R_append (Kd.int .i64) (w0 := w) w.heap.size rfl (.tmp 77) (.tmp 80) 78 3 (.int .i64 0) 8 rfl Try.underlying78 info3 rfl (by decide) (by omega) u6 x6_3 ((rd_T37 l1 x73_3).f1) [.int .i64 ((rd_T37 l1 x73_3).f1)] (fun _ => True) (fun _ => False) rfl (by first | (go_simp; done) | (go_simp; rfl)) ?aP (fun _ hk => hk.elim) ?aF ?aO ?aB ?aS ?aL ?_; (case aP => exact rfl); (case aB => exact (by repeat (first | (with_reducible first | exact HB.out | apply below_alloc | apply pw_below_drewN | apply below_drew1 | refine below_set ?_ GE153.out | refine below_set ?_ GE161.out) | exact HB.out))); (case aF => exact (fun _ _ => trivial)); (case aO => exact (by (with_reducible repeat (first | apply Kd.R_alloc | apply Kd.R_drewN | apply Kd.R_drew)); exact Kd.R_mono (Kd.R_far (p := ⟨gb161, 1, none⟩) (Kd.R_far (p := ⟨gb161, 0, none⟩) (Kd.R_types HO_6.out BK161.out (by decide)) (fun _ hk => hk.2) (.int .i64 ((rd_T37 l1 x73_3).f0))) (fun _ hk => hk.2) (.int .i64 ((rd_T37 l1 x73_3).f1))) (fun _ hk => trivial))); (case aS => exact (below_size (by repeat (first | (with_reducible first | exact HB.out | apply below_alloc | apply pw_below_drewN | apply below_drew1 | refine below_set ?_ GE153.out | refine below_set ?_ GE161.out) | exact HB.out)))); (case aL => have := LMc44.out; omega); intro v163 w48 ho hb hg hat; rw [← Ny162.out] at ho; have n0_ := Aside0.mk (Kd.R_over' (by (with_reducible repeat (first | apply Kd.R_alloc | apply Kd.R_drewN | apply Kd.R_drew)); exact (Kd.R_mono (Kd.R_far (p := ⟨gb161, 1, none⟩) (Kd.R_far (p := ⟨gb161, 0, none⟩) (Kd.R_types HO_5.out BK161.out (by decide)) (fun _ hk => hk.2) (.int .i64 ((rd_T37 l1 x73_3).f0))) (fun _ hk => hk.2) (.int .i64 ((rd_T37 l1 x73_3).f1))) (fun _ h_ => h_.1))) (Kd.R_typed (by (with_reducible repeat (first | apply Kd.R_alloc | apply Kd.R_drewN | apply Kd.R_drew)); exact (Kd.R_mono (Kd.R_far (p := ⟨gb161, 1, none⟩) (Kd.R_far (p := ⟨gb161, 0, none⟩) (Kd.R_types HO_6.out BK161.out (by decide)) (fun _ hk => hk.2) (.int .i64 ((rd_T37 l1 x73_3).f0))) (fun _ hk => hk.2) (.int .i64 ((rd_T37 l1 x73_3).f1))) (fun _ h_ => h_.1)))) (by decide) hg); have n1_ := Aside0.mk (blk_grown (g := gb153) (o := .cells #[.int .i64 ((rd_T35 l0 (rd x6_1 (ji10))).f0), .int .i64 ((rd_T35 l0 (rd x6_1 (ji10))).f1), .int .i64 ((rd_T35 l0 (rd x6_1 (ji10))).f2), .int .i64 ((rd_T35 l0 (rd x6_1 (ji10))).f3), .int .i64 ((rd_T35 l0 (rd x6_1 (ji10))).f4)] 35 (0, 0)) (by (with_reducible repeat (first | refine blk_drewN ?_ _ | refine blk_drew ?_ | refine blk_alloc ?_ _)); refine blk_far ?_ NB153_161.out _; (with_reducible repeat (first | refine blk_drewN ?_ _ | refine blk_drew ?_ | refine blk_alloc ?_ _)); refine blk_far ?_ NB153_161.out _; (with_reducible repeat (first | refine blk_drewN ?_ _ | refine blk_drew ?_ | refine blk_alloc ?_ _)); exact BK153.out) hg (Kd.R_ne HO_6.out BK153.out (by decide))); have n2_ := Aside0.mk (blk_grown (g := gb161) (o := .cells #[.int .i64 ((rd_T37 l1 x73_3).f0), .int .i64 ((rd_T37 l1 x73_3).f1)] 37 (0, 0)) (by (with_reducible repeat (first | refine blk_drewN ?_ _ | refine blk_drew ?_ | refine blk_alloc ?_ _)); refine blk_put (cs := #[.int .i64 ((rd_T37 l1 x73_3).f0), .int .i64 0]) ?_ 1 _ rfl; (with_reducible repeat (first | refine blk_drewN ?_ _ | refine blk_drew ?_ | refine blk_alloc ?_ _)); refine blk_put (cs := #[.int .i64 0, .int .i64 0]) ?_ 0 _ rfl; (with_reducible repeat (first | refine blk_drewN ?_ _ | refine blk_drew ?_ | refine blk_alloc ?_ _)); exact BK161.out) hg (Kd.R_ne HO_6.out BK161.out (by decide))); have n3_ := Aside0.mk (hb); have n4_ := Aside0.mk (ho); clear HO_5; clear BK153; clear BK161; clear HB; clear HO_6; have HO_5 := n0_; have BK153 := n1_; have BK161 := n2_; have HB := n3_; have HO164 := n4_; clear n0_ n1_ n2_ n3_ n4_; clear ho hb hg hat))
                        (try simp only [← hl5_3])
                        go_roundg k3
                        case measure => have := HK1.out; have := HJ13.out; have := HK3.out; omega
                        case rel => exact ⟨(y162), (wrap64 (x73_3 + 1)), (by first | rfl | (simp; done) | (simp [*]; done)), H', ⟨by have := HK1.out; have := HJ13.out; have := HK3.out; omega⟩, ⟨by (try simp only [hl5_3]); (with_reducible repeat (first | apply Kd.R_alloc | apply Kd.R_drewN | apply Kd.R_drew)); exact HO_5.out⟩, ⟨by (try simp only [hl5_3]); (with_reducible repeat (first | apply Kd.R_alloc | apply Kd.R_drewN | apply Kd.R_drew)); exact HO164.out⟩, ⟨by (try simp only [hl5_3]); (with_reducible repeat (first | refine blk_drewN ?_ _ | refine blk_drew ?_ | refine blk_alloc ?_ _)); exact BK153.out⟩, ⟨by repeat (first | (with_reducible first | exact HB.out | apply below_alloc | apply pw_below_drewN | apply below_drew1 | refine below_set ?_ GE153.out | refine below_set ?_ GE161.out) | exact HB.out)⟩⟩
                       ·rw [if_neg c44] at H
                        exact absurd H (by simp)
                      ·rw [if_neg c43] at H
                       exact absurd H (by simp)
                     ·rw [if_neg c42] at H
                      exact absurd H (by simp)
                    ·rw [if_neg c41] at H
                     have c41b0 : decide (x73_3 < (l1.length : Int)) = false := decide_eq_false c41
                     clear c41
                     have H' := Aside0.mk H
                     clear H
                     go_wp2
                     (try simp only [← hl5_3])
                     go_roundg k3
                     case measure => have := HK1.out; have := HJ13.out; have := HK3.out; omega
                     case rel => exact ⟨(y151), (x6_3), H', ⟨by have := HK1.out; have := HJ13.out; have := HK3.out; omega⟩, ⟨by (try simp only [hl5_3]); (with_reducible repeat (first | apply Kd.R_alloc | apply Kd.R_drewN | apply Kd.R_drew)); exact HO_5.out⟩, ⟨by (try simp only [hl5_3]); (with_reducible repeat (first | apply Kd.R_alloc | apply Kd.R_drewN | apply Kd.R_drew)); exact HO_6.out⟩, ⟨by repeat (first | (with_reducible first | exact HB.out | apply below_alloc | apply pw_below_drewN | apply below_drew1 | refine below_set ?_ GE153.out) | exact HB.out)⟩⟩
                 ·rw [if_neg c35] at H
                  exact absurd H (by simp)
                ·rw [if_neg c34] at H
                 have c34b0 : (((rd_T35 l0 (rd x6_1 (ji10))).f0) == 3) = false := beq_eq_false_iff_ne.mpr c34
                 have c34b1 : (((rd_T35 l0 (rd x6_1 (ji10))).f0) != 3) = true := bne_iff_ne.mpr c34
                 have HC49 := Aside0.mk H
                 clear H
                 have p25 : 0 ≤ ((rd x6_1 (ji10)) : Int) := of_decide_eq_true (by first | (with_reducible assumption) | assumption)
                 have q25 : ((rd x6_1 (ji10)) : Int) < ((x5_1.length : Int) : Int) := of_decide_eq_true (by first | (with_reducible assumption) | assumption)
                 obtain ⟨go25, co25, eo25, gb25, gl25, cl25, HG25⟩ := Kd.R_form HO_5.out (by omega)
                 (first | cases eo25 | (injection eo25 with ea_ en_ ec_; (first | subst ea_ | (injection ea_ with ea_; subst ea_)); subst ec_; clear en_))
                 have GB25 := Aside0.mk gb25
                 have GG25 := Aside0.mk HG25
                 clear gb25 gl25 HG25
                 obtain ⟨hx25_0, hf25_0⟩ := Kd.R_celln false HO_5.out ((rd x6_1 (ji10)) : Int) p25 q25
                 replace p25 := eq_true p25
                 replace q25 := eq_true q25
                 have HP50 := Kd.R_putg HO_5.out ((rd x6_1 (ji10)) : Int) true
                 go_upto_if 83 with (first | ((with_reducible refine gate_store (t := 4) (p := 45) rfl ?_); refine store_event (t := 4) (p := 45) (v := ?vo_w51) (w1 := (wc.setCell ⟨go25, ((rd x6_1 (ji10)) : Int).toNat, none⟩ (.bool true))) ?hg ?ho ?hn ?hr ?_; (case ho => rfl); (case hg => rfl); (case hn => rfl); (case hr => first | (go_simp; done) | (go_simp; rfl)); intro w51 hw; have hg : wc.grownBy w51 (some go25) := (by rw [hw]; exact HP50.2); have hp_ : Kd.R Kd.bool 4 w51 w.heap.size (fun _ => True) (.slice (some ⟨go25, 0, none⟩) x5_1.length co25) y151 := (by rw [hw, Ny151.out]; exact HP50.1); clear HP50; have n0_ := Aside0.mk (hp_); have n1_ := Aside0.mk (Kd.R_over' (v := (.slice (some ⟨go25, 0, none⟩) x5_1.length co25)) (by (with_reducible repeat (first | apply Kd.R_alloc | apply Kd.R_drewN | apply Kd.R_drew)); exact HO_6.out) (Kd.R_typed HO_5.out) (by decide) hg); have n2_ := Aside0.mk ((by rw [hw]; exact below_set (HB.out) GB25.out : Below w.heap.size w w51)); clear HO_5; clear HO_6; clear HB; have HO_5 := n0_; have HO_6 := n1_; have HB := n2_; clear n0_ n1_ n2_; clear hg hw hp_; have p152 : 0 ≤ ((rd x6_1 (ji10)) : Int) := of_decide_eq_true (by first | (with_reducible assumption) | assumption); have q152 : (rd x6_1 (ji10)) < (l0.length : Int) := of_decide_eq_true (by first | (with_reducible assumption) | assumption); obtain ⟨ad152, e152, hx152_0, hx152_1, hx152_2, hx152_3, hx152_4⟩ := at_T35 HR0.out (rd x6_1 (ji10)) p152 q152; cases e152; replace hx152_0 := (HB.out.cell (World.block_lt_of_cell? w _ hx152_0)).trans hx152_0; replace hx152_1 := (HB.out.cell (World.block_lt_of_cell? w _ hx152_1)).trans hx152_1; replace hx152_2 := (HB.out.cell (World.block_lt_of_cell? w _ hx152_2)).trans hx152_2; replace hx152_3 := (HB.out.cell (World.block_lt_of_cell? w _ hx152_3)).trans hx152_3; replace hx152_4 := (HB.out.cell (World.block_lt_of_cell? w _ hx152_4)).trans hx152_4; replace p152 := eq_true p152; replace q152 := eq_true q152) | ((with_reducible refine gate_dst (N := 8) rfl ?_); (try (refine gate_guard (by rfl) ?_; dsimp only)); refine box_event ?hg (N := 8) ?hd (cs := #[.int .i64 0, .int .i64 0, .int .i64 0, .int .i64 0, .int .i64 0]) (t := 35) ?hr ?_; (case hd => rfl); (case hg => rfl); (case hr => first | (go_simp; done) | (go_simp; rfl)); intro gb153 hg w52 hbox hb; have n0_ := Aside0.mk (Kd.R_below (by (with_reducible repeat (first | apply Kd.R_alloc | apply Kd.R_drewN | apply Kd.R_drew)); exact HO_5.out) hb); have n1_ := Aside0.mk (Kd.R_below (by (with_reducible repeat (first | apply Kd.R_alloc | apply Kd.R_drewN | apply Kd.R_drew)); exact HO_6.out) hb); have n2_ := Aside0.mk (below_step (by repeat (first | (with_reducible first | exact HB.out | apply below_alloc | apply pw_below_drewN | apply below_drew1) | exact HB.out)) hb); have n3_ := Aside0.mk (hbox); have n4_ := Aside0.mk ((by rw [hg]; exact (below_size (by repeat (first | (with_reducible first | exact HB.out | apply below_alloc | apply pw_below_drewN | apply below_drew1) | exact HB.out))) : w.heap.size ≤ gb153)); have n5_ := Aside0.mk ((by rw [hg]; exact (below_size (by repeat (first | (with_reducible first | exact HB.out | apply below_alloc | apply pw_below_drewN | apply below_drew1) | exact HB.out))) : w.heap.size ≤ gb153)); clear HO_5; clear HO_6; clear HB; have HO_5 := n0_; have HO_6 := n1_; have HB := n2_; have BK153 := n3_; have GW153 := n4_; have GE153 := n5_; clear n0_ n1_ n2_ n3_ n4_ n5_; clear hb hbox hg; have hcz53_0 : w52.cell? ⟨gb153, 0, none⟩ = some (.int .i64 0) := (blk_cell BK153.out 0).trans rfl; have hcz53_1 : w52.cell? ⟨gb153, 1, none⟩ = some (.int .i64 0) := (blk_cell BK153.out 1).trans rfl; have hcz53_2 : w52.cell? ⟨gb153, 2, none⟩ = some (.int .i64 0) := (blk_cell BK153.out 2).trans rfl; have hcz53_3 : w52.cell? ⟨gb153, 3, none⟩ = some (.int .i64 0) := (blk_cell BK153.out 3).trans rfl; have hcz53_4 : w52.cell? ⟨gb153, 4, none⟩ = some (.int .i64 0) := (blk_cell BK153.out 4).trans rfl; have hfz53_0 := blk_frozen BK153.out 0; have hfz53_1 := blk_frozen BK153.out 1; have hfz53_2 := blk_frozen BK153.out 2; have hfz53_3 := blk_frozen BK153.out 3; have hfz53_4 := blk_frozen BK153.out 4))
                 (try simp only [Act.put, List.setIfInBounds_toArray, List.set_cons_zero, List.set_cons_succ])
                 go_cut [83] (fun v83 wc => ∃ (kq : Nat) (x83_48 : Bool), v83 = .bool x83_48 ∧ Aside0 (opt_reached.j3 kq l0 l1 y151 y147 (rd x6_1 (ji10)) ((rd_T35 l0 (rd x6_1 (ji10))).f0) x83_48 ((rd_T35 l0 (rd x6_1 (ji10))).f0) ((rd_T35 l0 (rd x6_1 (ji10))).f1) ((rd_T35 l0 (rd x6_1 (ji10))).f2) ((rd_T35 l0 (rd x6_1 (ji10))).f3) ((rd_T35 l0 (rd x6_1 (ji10))).f4) = some r) ∧ Aside0 (kq ≤ kj13) ∧ Aside0 (Kd.R Kd.bool 4 wc w.heap.size (fun _ => True) (.slice (some ⟨go25, 0, none⟩) x5_1.length co25) y151) ∧ Aside0 (Kd.R (Kd.int .i64) 3 wc w.heap.size (fun _ => True) (.slice (some ad146) y147.length co15) y147) ∧ Aside0 (wc.heap[gb153]? = some (.cells #[.int .i64 ((rd_T35 l0 (rd x6_1 (ji10))).f0), .int .i64 ((rd_T35 l0 (rd x6_1 (ji10))).f1), .int .i64 ((rd_T35 l0 (rd x6_1 (ji10))).f2), .int .i64 ((rd_T35 l0 (rd x6_1 (ji10))).f3), .int .i64 ((rd_T35 l0 (rd x6_1 (ji10))).f4)] 35 (0, 0))) ∧ Aside0 (Below w.heap.size w wc))
                 case first =>
                  have H := HC49.out
                  clear HC49
                  by_cases c54 : ((rd_T35 l0 (rd x6_1 (ji10))).f0) = 2
                  ·rw [if_pos c54] at H
                   have c54b0 : (((rd_T35 l0 (rd x6_1 (ji10))).f0) == 2) = true := beq_iff_eq.mpr c54
                   have c54b1 : (((rd_T35 l0 (rd x6_1 (ji10))).f0) != 2) = false := bne_eq_false_iff_eq.mpr c54
                   clear c54
                   (first | rw [c54b0] | (simp only [i64_w, i32_w]; rw [c54b0]) | skip)
                   have H' := Aside0.mk H
                   clear H
                   go_wp2
                   go_meet
                   case rel => exact ⟨_, ((((rd_T35 l0 (rd x6_1 (ji10))).f0) == 2)), (by first | rfl | (simp; done) | (simp only [← hji10] <;> (first | rfl | (simp; done))) | (simp [*]; done)), H', ⟨by have := HK1.out; have := HJ13.out; first | omega | exact Nat.le_refl _⟩, ⟨by (with_reducible repeat (first | apply Kd.R_alloc | apply Kd.R_drewN | apply Kd.R_drew)); exact Kd.R_mono (Kd.R_far (p := ⟨gb153, 4, none⟩) (Kd.R_far (p := ⟨gb153, 3, none⟩) (Kd.R_far (p := ⟨gb153, 2, none⟩) (Kd.R_far (p := ⟨gb153, 1, none⟩) (Kd.R_far (p := ⟨gb153, 0, none⟩) (Kd.R_types HO_5.out BK153.out (by decide)) (fun _ hk => hk.2) (.int .i64 ((rd_T35 l0 (rd x6_1 (ji10))).f0))) (fun _ hk => hk.2) (.int .i64 ((rd_T35 l0 (rd x6_1 (ji10))).f1))) (fun _ hk => hk.2) (.int .i64 ((rd_T35 l0 (rd x6_1 (ji10))).f2))) (fun _ hk => hk.2) (.int .i64 ((rd_T35 l0 (rd x6_1 (ji10))).f3))) (fun _ hk => hk.2) (.int .i64 ((rd_T35 l0 (rd x6_1 (ji10))).f4))) (fun _ hk => trivial)⟩, ⟨by (with_reducible repeat (first | apply Kd.R_alloc | apply Kd.R_drewN | apply Kd.R_drew)); exact Kd.R_mono (Kd.R_far (p := ⟨gb153, 4, none⟩) (Kd.R_far (p := ⟨gb153, 3, none⟩) (Kd.R_far (p := ⟨gb153, 2, none⟩) (Kd.R_far (p := ⟨gb153, 1, none⟩) (Kd.R_far (p := ⟨gb153, 0, none⟩) (Kd.R_types HO_6.out BK153.out (by decide)) (fun _ hk => hk.2) (.int .i64 ((rd_T35 l0 (rd x6_1 (ji10))).f0))) (fun _ hk => hk.2) (.int .i64 ((rd_T35 l0 (rd x6_1 (ji10))).f1))) (fun _ hk => hk.2) (.int .i64 ((rd_T35 l0 (rd x6_1 (ji10))).f2))) (fun _ hk => hk.2) (.int .i64 ((rd_T35 l0 (rd x6_1 (ji10))).f3))) (fun _ hk => hk.2) (.int .i64 ((rd_T35 l0 (rd x6_1 (ji10))).f4))) (fun _ hk => trivial)⟩, ⟨by (with_reducible repeat (first | refine blk_drewN ?_ _ | refine blk_drew ?_ | refine blk_alloc ?_ _)); refine blk_put (cs := #[.int .i64 ((rd_T35 l0 (rd x6_1 (ji10))).f0), .int .i64 ((rd_T35 l0 (rd x6_1 (ji10))).f1), .int .i64 ((rd_T35 l0 (rd x6_1 (ji10))).f2), .int .i64 ((rd_T35 l0 (rd x6_1 (ji10))).f3), .int .i64 0]) ?_ 4 _ rfl; (with_reducible repeat (first | refine blk_drewN ?_ _ | refine blk_drew ?_ | refine blk_alloc ?_ _)); refine blk_put (cs := #[.int .i64 ((rd_T35 l0 (rd x6_1 (ji10))).f0), .int .i64 ((rd_T35 l0 (rd x6_1 (ji10))).f1), .int .i64 ((rd_T35 l0 (rd x6_1 (ji10))).f2), .int .i64 0, .int .i64 0]) ?_ 3 _ rfl; (with_reducible repeat (first | refine blk_drewN ?_ _ | refine blk_drew ?_ | refine blk_alloc ?_ _)); refine blk_put (cs := #[.int .i64 ((rd_T35 l0 (rd x6_1 (ji10))).f0), .int .i64 ((rd_T35 l0 (rd x6_1 (ji10))).f1), .int .i64 0, .int .i64 0, .int .i64 0]) ?_ 2 _ rfl; (with_reducible repeat (first | refine blk_drewN ?_ _ | refine blk_drew ?_ | refine blk_alloc ?_ _)); refine blk_put (cs := #[.int .i64 ((rd_T35 l0 (rd x6_1 (ji10))).f0), .int .i64 0, .int .i64 0, .int .i64 0, .int .i64 0]) ?_ 1 _ rfl; (with_reducible repeat (first | refine blk_drewN ?_ _ | refine blk_drew ?_ | refine blk_alloc ?_ _)); refine blk_put (cs := #[.int .i64 0, .int .i64 0, .int .i64 0, .int .i64 0, .int .i64 0]) ?_ 0 _ rfl; (with_reducible repeat (first | refine blk_drewN ?_ _ | refine blk_drew ?_ | refine blk_alloc ?_ _)); exact BK153.out⟩, ⟨by repeat (first | (with_reducible first | exact HB.out | apply below_alloc | apply pw_below_drewN | apply below_drew1 | refine below_set ?_ GE153.out) | exact HB.out)⟩⟩
                  ·rw [if_neg c54] at H
                   have c54b0 : (((rd_T35 l0 (rd x6_1 (ji10))).f0) == 2) = false := beq_eq_false_iff_ne.mpr c54
                   have c54b1 : (((rd_T35 l0 (rd x6_1 (ji10))).f0) != 2) = true := bne_iff_ne.mpr c54
                   (first | rw [c54b0] | (simp only [i64_w, i32_w]; rw [c54b0]) | skip)
                   have H' := Aside0.mk H
                   clear H
                   go_wp2
                   go_meet
                   case rel => exact ⟨_, ((((rd_T35 l0 (rd x6_1 (ji10))).f0) == 16)), (by first | rfl | (simp; done) | (simp only [← hji10] <;> (first | rfl | (simp; done))) | (simp [*]; done)), H', ⟨by have := HK1.out; have := HJ13.out; first | omega | exact Nat.le_refl _⟩, ⟨by (with_reducible repeat (first | apply Kd.R_alloc | apply Kd.R_drewN | apply Kd.R_drew)); exact Kd.R_mono (Kd.R_far (p := ⟨gb153, 4, none⟩) (Kd.R_far (p := ⟨gb153, 3, none⟩) (Kd.R_far (p := ⟨gb153, 2, none⟩) (Kd.R_far (p := ⟨gb153, 1, none⟩) (Kd.R_far (p := ⟨gb153, 0, none⟩) (Kd.R_types HO_5.out BK153.out (by decide)) (fun _ hk => hk.2) (.int .i64 ((rd_T35 l0 (rd x6_1 (ji10))).f0))) (fun _ hk => hk.2) (.int .i64 ((rd_T35 l0 (rd x6_1 (ji10))).f1))) (fun _ hk => hk.2) (.int .i64 ((rd_T35 l0 (rd x6_1 (ji10))).f2))) (fun _ hk => hk.2) (.int .i64 ((rd_T35 l0 (rd x6_1 (ji10))).f3))) (fun _ hk => hk.2) (.int .i64 ((rd_T35 l0 (rd x6_1 (ji10))).f4))) (fun _ hk => trivial)⟩, ⟨by (with_reducible repeat (first | apply Kd.R_alloc | apply Kd.R_drewN | apply Kd.R_drew)); exact Kd.R_mono (Kd.R_far (p := ⟨gb153, 4, none⟩) (Kd.R_far (p := ⟨gb153, 3, none⟩) (Kd.R_far (p := ⟨gb153, 2, none⟩) (Kd.R_far (p := ⟨gb153, 1, none⟩) (Kd.R_far (p := ⟨gb153, 0, none⟩) (Kd.R_types HO_6.out BK153.out (by decide)) (fun _ hk => hk.2) (.int .i64 ((rd_T35 l0 (rd x6_1 (ji10))).f0))) (fun _ hk => hk.2) (.int .i64 ((rd_T35 l0 (rd x6_1 (ji10))).f1))) (fun _ hk => hk.2) (.int .i64 ((rd_T35 l0 (rd x6_1 (ji10))).f2))) (fun _ hk => hk.2) (.int .i64 ((rd_T35 l0 (rd x6_1 (ji10))).f3))) (fun _ hk => hk.2) (.int .i64 ((rd_T35 l0 (rd x6_1 (ji10))).f4))) (fun _ hk => trivial)⟩, ⟨by (with_reducible repeat (first | refine blk_drewN ?_ _ | refine blk_drew ?_ | refine blk_alloc ?_ _)); refine blk_put (cs := #[.int .i64 ((rd_T35 l0 (rd x6_1 (ji10))).f0), .int .i64 ((rd_T35 l0 (rd x6_1 (ji10))).f1), .int .i64 ((rd_T35 l0 (rd x6_1 (ji10))).f2), .int .i64 ((rd_T35 l0 (rd x6_1 (ji10))).f3), .int .i64 0]) ?_ 4 _ rfl; (with_reducible repeat (first | refine blk_drewN ?_ _ | refine blk_drew ?_ | refine blk_alloc ?_ _)); refine blk_put (cs := #[.int .i64 ((rd_T35 l0 (rd x6_1 (ji10))).f0), .int .i64 ((rd_T35 l0 (rd x6_1 (ji10))).f1), .int .i64 ((rd_T35 l0 (rd x6_1 (ji10))).f2), .int .i64 0, .int .i64 0]) ?_ 3 _ rfl; (with_reducible repeat (first | refine blk_drewN ?_ _ | refine blk_drew ?_ | refine blk_alloc ?_ _)); refine blk_put (cs := #[.int .i64 ((rd_T35 l0 (rd x6_1 (ji10))).f0), .int .i64 ((rd_T35 l0 (rd x6_1 (ji10))).f1), .int .i64 0, .int .i64 0, .int .i64 0]) ?_ 2 _ rfl; (with_reducible repeat (first | refine blk_drewN ?_ _ | refine blk_drew ?_ | refine blk_alloc ?_ _)); refine blk_put (cs := #[.int .i64 ((rd_T35 l0 (rd x6_1 (ji10))).f0), .int .i64 0, .int .i64 0, .int .i64 0, .int .i64 0]) ?_ 1 _ rfl; (with_reducible repeat (first | refine blk_drewN ?_ _ | refine blk_drew ?_ | refine blk_alloc ?_ _)); refine blk_put (cs := #[.int .i64 0, .int .i64 0, .int .i64 0, .int .i64 0, .int .i64 0]) ?_ 0 _ rfl; (with_reducible repeat (first | refine blk_drewN ?_ _ | refine blk_drew ?_ | refine blk_alloc ?_ _)); exact BK153.out⟩, ⟨by repeat (first | (with_reducible first | exact HB.out | apply below_alloc | apply pw_below_drewN | apply below_drew1 | refine below_set ?_ GE153.out) | exact HB.out)⟩⟩
                 case rest =>
                  clear HC49
                  try clear c1
                  try clear p1
                  try clear q1
                  try clear hx1
                  try clear c2
                  try clear p2
                  try clear q2
                  try clear hx2
                  try clear hf2
                  try clear c3
                  try clear c3b0
                  try clear c3b1
                  try clear c4
                  try clear c4b0
                  try clear c4b1
                  try clear c5
                  try clear c6
                  try clear p6
                  try clear c9
                  try clear c9b0
                  try clear c9b1
                  try clear c11
                  try clear c11b0
                  try clear c12
                  try clear c12b0
                  try clear c13
                  try clear c13b0
                  try clear c13b1
                  try clear p14
                  try clear q14
                  try clear hx14
                  try clear p15
                  try clear q15
                  try clear hx15
                  try clear p16
                  try clear q16
                  try clear hx16
                  try clear c17
                  try clear c17b0
                  try clear c18
                  try clear c18b0
                  try clear c19
                  try clear c19b0
                  try clear c20
                  try clear c20b0
                  try clear c22
                  try clear c23
                  try clear c23b0
                  try clear c24
                  try clear c24b0
                  try clear p25
                  try clear q25
                  try clear hx25
                  try clear hf25
                  try clear c26
                  try clear c26b0
                  try clear c27
                  try clear c27b0
                  try clear c27b1
                  try clear c28
                  try clear c34
                  try clear c34b0
                  try clear c34b1
                  try clear c35
                  try clear c41
                  try clear c41b0
                  try clear c42
                  try clear c42b0
                  try clear c43
                  try clear c43b0
                  try clear c44
                  try clear c46
                  try clear c54
                  try clear c54b0
                  try clear c54b1
                  try clear hcz32_0
                  try clear hcz32_1
                  try clear hcz32_2
                  try clear hcz32_3
                  try clear hcz32_4
                  try clear hcz39_0
                  try clear hcz39_1
                  try clear hcz39_2
                  try clear hcz39_3
                  try clear hcz39_4
                  try clear hcz47_0
                  try clear hcz47_1
                  try clear hcz53_0
                  try clear hcz53_1
                  try clear hcz53_2
                  try clear hcz53_3
                  try clear hcz53_4
                  try clear hfz32_0
                  try clear hfz32_1
                  try clear hfz32_2
                  try clear hfz32_3
                  try clear hfz32_4
                  try clear hfz39_0
                  try clear hfz39_1
                  try clear hfz39_2
                  try clear hfz39_3
                  try clear hfz39_4
                  try clear hfz47_0
                  try clear hfz47_1
                  try clear hfz53_0
                  try clear hfz53_1
                  try clear hfz53_2
                  try clear hfz53_3
                  try clear hfz53_4
                  try clear hx146_0
                  try clear hx150_0
                  try clear hx152_0
                  try clear hx152_1
                  try clear hx152_2
                  try clear hx152_3
                  try clear hx152_4
                  try clear hx160_0
                  try clear hx160_1
                  try clear hx25_0
                  try clear p1
                  try clear p14
                  try clear p146
                  try clear p15
                  try clear p150
                  try clear p152
                  try clear p160
                  try clear p2
                  try clear p25
                  try clear p6
                  try clear q1
                  try clear q14
                  try clear q146
                  try clear q15
                  try clear q150
                  try clear q152
                  try clear q16
                  try clear q160
                  try clear q2
                  try clear q25
                  obtain ⟨kq, x83_48, rfl, HA, HJ48, HO_5, HO_6, BK153, HB⟩ := hcut
                  have hl5_48 := (Kd.R_reads' HO_5.out).1
                  rw [hl5_48] at HO_5
                  (try simp only [hl5_48])
                  (try simp only [hl5_48] at BK153)
                  (try simp only [hl5_48] at HO_6)
                  cases kq with
                  | zero => exact absurd HA.out (by simp [opt_reached.j3])
                  | succ kj48 =>
                   have H := HA.out
                   clear HA
                   simp only [opt_reached.j3] at H
                   by_cases c55 : x83_48 = true
                   ·subst c55
                    have H1 : ((some (([wrap64 ((rd x6_1 (ji10)) + 1), ((rd_T35 l0 (rd x6_1 (ji10))).f2)] : List Int) : List Int)).bind fun y165 => (if y147.length + y165.length < 17592186044416 then (opt_reached.l0 kj48 l0 l1 y151 (y147 ++ y165)) else (none))) = some r := by rw [if_pos rfl] at H; exact H
                    clear H
                    have H := H1
                    clear H1
                    obtain ⟨y165, hy165⟩ : ∃ y_ : List Int, y_ = (([wrap64 ((rd x6_1 (ji10)) + 1), ((rd_T35 l0 (rd x6_1 (ji10))).f2)] : List Int)) := ⟨_, rfl⟩
                    replace H : (if y147.length + y165.length < 17592186044416 then (opt_reached.l0 kj48 l0 l1 y151 (y147 ++ y165)) else (none)) = some r := by first | (rw [hy165]; with_reducible exact H) | (have H2_ := (Option.bind_some _ _).symm.trans H; rw [hy165]; with_reducible exact H2_) | (have H2_ := (Option.bind_some _ _).symm.trans H; with_reducible exact H2_) | with_reducible exact H | (rw [hy165]; exact H) | exact H
                    have Ny165 := Aside0.mk hy165
                    clear hy165
                    by_cases c56 : y147.length + y165.length < 17592186044416
                    ·rw [if_pos c56] at H
                     have LMc56 := Aside0.mk c56
                     clear c56
                     obtain ⟨y168, hy168⟩ : ∃ y_ : List Int, y_ = (y147 ++ y165) := ⟨_, rfl⟩
                     replace H : (opt_reached.l0 kj48 l0 l1 y151 y168) = some r := by first | (rw [hy168]; with_reducible exact H) | (have H2_ := (Option.bind_some _ _).symm.trans H; rw [hy168]; with_reducible exact H2_) | (have H2_ := (Option.bind_some _ _).symm.trans H; with_reducible exact H2_) | with_reducible exact H | (rw [hy168]; exact H) | exact H
                     have Ny168 := Aside0.mk hy168
                     clear hy168
                     have H' := Aside0.mk H
                     clear H
                     have hcz57_0 : wc.cell? ⟨gb153, 0, none⟩ = some (.int .i64 ((rd_T35 l0 (rd x6_1 (ji10))).f0)) := (blk_cell BK153.out 0).trans rfl
                     have hcz57_1 : wc.cell? ⟨gb153, 1, none⟩ = some (.int .i64 ((rd_T35 l0 (rd x6_1 (ji10))).f1)) := (blk_cell BK153.out 1).trans rfl
                     have hcz57_2 : wc.cell? ⟨gb153, 2, none⟩ = some (.int .i64 ((rd_T35 l0 (rd x6_1 (ji10))).f2)) := (blk_cell BK153.out 2).trans rfl
                     have hcz57_3 : wc.cell? ⟨gb153, 3, none⟩ = some (.int .i64 ((rd_T35 l0 (rd x6_1 (ji10))).f3)) := (blk_cell BK153.out 3).trans rfl
                     have hcz57_4 : wc.cell? ⟨gb153, 4, none⟩ = some (.int .i64 ((rd_T35 l0 (rd x6_1 (ji10))).f4)) := (blk_cell BK153.out 4).trans rfl
                     have hfz57_0 := blk_frozen BK153.out 0
                     have hfz57_1 := blk_frozen BK153.out 1
                     have hfz57_2 := blk_frozen BK153.out 2
                     have hfz57_3 := blk_frozen BK153.out 3
                     have hfz57_4 := blk_frozen BK153.out 4
                     go_wp2_with (first | ((with_reducible refine gate_dst (N := 91) rfl ?_); (try (refine gate_guard (by rfl) ?_; dsimp only)); refine Kd.R_lit (Kd.int .i64) _ 3 ?hg (N := 91) ?hd (xs := ([wrap64 ((rd x6_1 (ji10)) + 1), ((rd_T35 l0 (rd x6_1 (ji10))).f2)] : List Int)) (inner := [.int .i64 (wrap64 ((rd x6_1 (ji10)) + 1)), .int .i64 ((rd_T35 l0 (rd x6_1 (ji10))).f2)]) (ok := fun _ => True) (okp := fun _ => True) ?hr ?hp (fun _ hk => hk) trivial (Below.refl _ _) (Nat.le_refl _) (by simp) ?_; (case hd => rfl); (case hg => rfl); (case hr => first | (go_simp; done) | (go_simp; rfl)); (case hp => exact (Reps.one (show Kd.M (Kd.int .i64) _ _ _ (wrap64 ((rd x6_1 (ji10)) + 1)) [.int .i64 (wrap64 ((rd x6_1 (ji10)) + 1))] from rfl) (Reps.one (show Kd.M (Kd.int .i64) _ _ _ ((rd_T35 l0 (rd x6_1 (ji10))).f2) [.int .i64 ((rd_T35 l0 (rd x6_1 (ji10))).f2)] from rfl) (Reps.none _ _)))); intro v166 w58 ho59 hb hg_ hnew_; clear hg_ hnew_; (first | rw [← Ny165.out] at ho59 | (simp only [Int.reduceToNat] at ho59; rw [← Ny165.out] at ho59)); have n0_ := Aside0.mk (Kd.R_below (by (with_reducible repeat (first | apply Kd.R_alloc | apply Kd.R_drewN | apply Kd.R_drew)); exact HO_5.out) hb); have n1_ := Aside0.mk (Kd.R_elder' (by (with_reducible repeat (first | apply Kd.R_alloc | apply Kd.R_drewN | apply Kd.R_drew)); exact HO_6.out) (Kd.R_base ho59) hb); have n2_ := Aside0.mk (Kd.R_lower (Kd.R_new' ho59 (Kd.R_lt (by (with_reducible repeat (first | apply Kd.R_alloc | apply Kd.R_drewN | apply Kd.R_drew)); exact HO_6.out))) (below_size (by repeat (first | (with_reducible first | exact HB.out | apply below_alloc | apply pw_below_drewN | apply below_drew1 | refine below_set ?_ GE153.out) | exact HB.out)))); have n3_ := Aside0.mk (blk_below (g := gb153) (o := .cells #[.int .i64 ((rd_T35 l0 (rd x6_1 (ji10))).f0), .int .i64 ((rd_T35 l0 (rd x6_1 (ji10))).f1), .int .i64 ((rd_T35 l0 (rd x6_1 (ji10))).f2), .int .i64 ((rd_T35 l0 (rd x6_1 (ji10))).f3), .int .i64 ((rd_T35 l0 (rd x6_1 (ji10))).f4)] 35 (0, 0)) (by (with_reducible repeat (first | refine blk_drewN ?_ _ | refine blk_drew ?_ | refine blk_alloc ?_ _)); exact BK153.out) hb); have n4_ := Aside0.mk (below_step (by repeat (first | (with_reducible first | exact HB.out | apply below_alloc | apply pw_below_drewN | apply below_drew1 | refine below_set ?_ GE153.out) | exact HB.out)) hb); clear HO_5; clear HO_6; clear BK153; clear HB; have HO_5 := n0_; have HO_6 := n1_; have HO167 := n2_; have BK153 := n3_; have HB := n4_; clear n0_ n1_ n2_ n3_ n4_; clear hb ho59; obtain ⟨Ao61, co61, eo61⟩ := Kd.R_slice HO167.out; subst eo61) | ((with_reducible refine gate_builtin (b := .append) (xs := #[.tmp 86, .tmp 91]) rfl ?_); (try (refine gate_guard (by rfl) ?_; dsimp only)); at_builtin; refine Kd.R_append_rows (Kd.int .i64) (w0 := w) w.heap.size rfl (.tmp 86) (.tmp 91) 78 3 (.int .i64 0) 8 rfl Try.underlying78 info3 rfl (by decide) (by omega) (.slice (some ad146) y147.length co15) y147 y165 _ _ _ (fun k_ => some k_ ≠ (.slice Ao61 y165.length co61 : Value).ownBlock) (fun _ => False) rfl rfl ?aO ?aR (fun _ _ h => h) (fun _ h => h.elim) ?aF ?aB ?aS ?aL ?_; (case aR => repeat (first | exact (Kd.R_reads' HO167.out).2.2 | (with_reducible refine Kd.C_alloc ?_ _) | (with_reducible refine Kd.C_drewN ?_ _) | (with_reducible refine Kd.C_drew ?_))); (case aB => exact (by repeat (first | (with_reducible first | exact HB.out | apply below_alloc | apply pw_below_drewN | apply below_drew1 | refine below_set ?_ GE153.out) | exact HB.out))); (case aF => exact (fun k_ hk => Kd.fresh' (Kd.R_lt (by (with_reducible repeat (first | apply Kd.R_alloc | apply Kd.R_drewN | apply Kd.R_drew)); exact HO167.out)) k_ hk)); (case aO => exact (by (with_reducible repeat (first | apply Kd.R_alloc | apply Kd.R_drewN | apply Kd.R_drew)); exact Kd.R_mono HO_6.out (fun _ hk => hk.2))); (case aS => exact (below_size (by repeat (first | (with_reducible first | exact HB.out | apply below_alloc | apply pw_below_drewN | apply below_drew1 | refine below_set ?_ GE153.out) | exact HB.out)))); (case aL => have := LMc56.out; omega); intro v169 w60 ho hb hg hat; rw [← Ny168.out] at ho; have n0_ := Aside0.mk (Kd.R_over' (by (with_reducible repeat (first | apply Kd.R_alloc | apply Kd.R_drewN | apply Kd.R_drew)); exact HO_5.out) (Kd.R_typed (by (with_reducible repeat (first | apply Kd.R_alloc | apply Kd.R_drewN | apply Kd.R_drew)); exact HO_6.out)) (by decide) hg); have n1_ := Aside0.mk (blk_grown (g := gb153) (o := .cells #[.int .i64 ((rd_T35 l0 (rd x6_1 (ji10))).f0), .int .i64 ((rd_T35 l0 (rd x6_1 (ji10))).f1), .int .i64 ((rd_T35 l0 (rd x6_1 (ji10))).f2), .int .i64 ((rd_T35 l0 (rd x6_1 (ji10))).f3), .int .i64 ((rd_T35 l0 (rd x6_1 (ji10))).f4)] 35 (0, 0)) (by (with_reducible repeat (first | refine blk_drewN ?_ _ | refine blk_drew ?_ | refine blk_alloc ?_ _)); exact BK153.out) hg (Kd.R_ne HO_6.out BK153.out (by decide))); have n2_ := Aside0.mk (Kd.R_after (ok := (fun _ => True)) (by (with_reducible repeat (first | apply Kd.R_alloc | apply Kd.R_drewN | apply Kd.R_drew)); exact HO167.out) hg hat); have n3_ := Aside0.mk (hb); have n4_ := Aside0.mk (ho); clear HO_5; clear BK153; clear HO167; clear HB; clear HO_6; have HO_5 := n0_; have BK153 := n1_; have HO167 := n2_; have HB := n3_; have HO170 := n4_; clear n0_ n1_ n2_ n3_ n4_; clear ho hb hg hat))
                     (try simp only [← hl5_48])
                     go_roundg kj48
                     case measure => have := HK1.out; have := HJ13.out; have := HJ48.out; omega
                     case rel => exact ⟨(y151), (y168), H', ⟨by have := HK1.out; have := HJ13.out; have := HJ48.out; omega⟩, ⟨by (try simp only [hl5_48]); (with_reducible repeat (first | apply Kd.R_alloc | apply Kd.R_drewN | apply Kd.R_drew)); exact HO_5.out⟩, ⟨by (try simp only [hl5_48]); (with_reducible repeat (first | apply Kd.R_alloc | apply Kd.R_drewN | apply Kd.R_drew)); exact Kd.R_mono HO170.out (fun _ hk => trivial)⟩, ⟨by repeat (first | (with_reducible first | exact HB.out | apply below_alloc | apply pw_below_drewN | apply below_drew1 | refine below_set ?_ GE153.out) | exact HB.out)⟩⟩
                    ·rw [if_neg c56] at H
                     exact absurd H (by simp)
                   ·replace c55 := Bool.eq_false_iff.mpr c55
                    subst c55
                    have H1 : (if ((rd_T35 l0 (rd x6_1 (ji10))).f0) = 24 then (opt_reached.l0 kj48 l0 l1 y151 y147) else (if y147.length < 17592186044416 then (opt_reached.l0 kj48 l0 l1 y151 (y147 ++ [wrap64 ((rd x6_1 (ji10)) + 1)])) else (none))) = some r := by rw [if_neg (show ¬ (false = true) by decide)] at H; exact H
                    clear H
                    have H := H1
                    clear H1
                    by_cases c62 : ((rd_T35 l0 (rd x6_1 (ji10))).f0) = 24
                    ·rw [if_pos c62] at H
                     have c62b0 : (((rd_T35 l0 (rd x6_1 (ji10))).f0) == 24) = true := beq_iff_eq.mpr c62
                     have c62b1 : (((rd_T35 l0 (rd x6_1 (ji10))).f0) != 24) = false := bne_eq_false_iff_eq.mpr c62
                     clear c62
                     have H' := Aside0.mk H
                     clear H
                     go_wp2
                     (try simp only [← hl5_48])
                     go_roundg kj48
                     case measure => have := HK1.out; have := HJ13.out; have := HJ48.out; omega
                     case rel => exact ⟨(y151), (y147), H', ⟨by have := HK1.out; have := HJ13.out; have := HJ48.out; omega⟩, ⟨by (try simp only [hl5_48]); (with_reducible repeat (first | apply Kd.R_alloc | apply Kd.R_drewN | apply Kd.R_drew)); exact HO_5.out⟩, ⟨by (try simp only [hl5_48]); (with_reducible repeat (first | apply Kd.R_alloc | apply Kd.R_drewN | apply Kd.R_drew)); exact HO_6.out⟩, ⟨by repeat (first | (with_reducible first | exact HB.out | apply below_alloc | apply pw_below_drewN | apply below_drew1 | refine below_set ?_ GE153.out) | exact HB.out)⟩⟩
                    ·rw [if_neg c62] at H
                     have c62b0 : (((rd_T35 l0 (rd x6_1 (ji10))).f0) == 24) = false := beq_eq_false_iff_ne.mpr c62
                     have c62b1 : (((rd_T35 l0 (rd x6_1 (ji10))).f0) != 24) = true := bne_iff_ne.mpr c62
                     by_cases c63 : y147.length < 17592186044416
                     ·rw [if_pos c63] at H
                      have LMc63 := Aside0.mk c63
                      clear c63
                      obtain ⟨y171, hy171⟩ : ∃ y_ : List Int, y_ = (y147 ++ [wrap64 ((rd x6_1 (ji10)) + 1)]) := ⟨_, rfl⟩
                      replace H : (opt_reached.l0 kj48 l0 l1 y151 y171) = some r := by first | (rw [hy171]; with_reducible exact H) | (have H2_ := (Option.bind_some _ _).symm.trans H; rw [hy171]; with_reducible exact H2_) | (have H2_ := (Option.bind_some _ _).symm.trans H; with_reducible exact H2_) | with_reducible exact H | (rw [hy171]; exact H) | exact H
                      have Ny171 := Aside0.mk hy171
                      clear hy171
                      have H' := Aside0.mk H
                      clear H
                      go_wp2_with (first | ((with_reducible refine gate_builtin (b := .append) (xs := #[.tmp 52, .tmp 55]) rfl ?_); (try (refine gate_guard (by rfl) ?_; dsimp only)); at_builtin; refine Kd.R_append (Kd.int .i64) (w0 := w) w.heap.size rfl (.tmp 52) (.tmp 55) 78 3 (.int .i64 0) 8 rfl Try.underlying78 info3 rfl (by decide) (by omega) (.slice (some ad146) y147.length co15) y147 (wrap64 ((rd x6_1 (ji10)) + 1)) [.int .i64 (wrap64 ((rd x6_1 (ji10)) + 1))] (fun _ => True) (fun _ => False) rfl rfl ?aP (fun _ hk => hk.elim) ?aF ?aO ?aB ?aS ?aL ?_; (case aP => exact rfl); (case aB => exact (by repeat (first | (with_reducible first | exact HB.out | apply below_alloc | apply pw_below_drewN | apply below_drew1 | refine below_set ?_ GE153.out) | exact HB.out))); (case aF => exact (fun _ _ => trivial)); (case aO => exact (by (with_reducible repeat (first | apply Kd.R_alloc | apply Kd.R_drewN | apply Kd.R_drew)); exact HO_6.out)); (case aS => exact (below_size (by repeat (first | (with_reducible first | exact HB.out | apply below_alloc | apply pw_below_drewN | apply below_drew1 | refine below_set ?_ GE153.out) | exact HB.out)))); (case aL => have := LMc63.out; omega); intro v172 w64 ho hb hg hat; rw [← Ny171.out] at ho; have n0_ := Aside0.mk (Kd.R_over' (by (with_reducible repeat (first | apply Kd.R_alloc | apply Kd.R_drewN | apply Kd.R_drew)); exact HO_5.out) (Kd.R_typed (by (with_reducible repeat (first | apply Kd.R_alloc | apply Kd.R_drewN | apply Kd.R_drew)); exact HO_6.out)) (by decide) hg); have n1_ := Aside0.mk (blk_grown (g := gb153) (o := .cells #[.int .i64 ((rd_T35 l0 (rd x6_1 (ji10))).f0), .int .i64 ((rd_T35 l0 (rd x6_1 (ji10))).f1), .int .i64 ((rd_T35 l0 (rd x6_1 (ji10))).f2), .int .i64 ((rd_T35 l0 (rd x6_1 (ji10))).f3), .int .i64 ((rd_T35 l0 (rd x6_1 (ji10))).f4)] 35 (0, 0)) (by (with_reducible repeat (first | refine blk_drewN ?_ _ | refine blk_drew ?_ | refine blk_alloc ?_ _)); exact BK153.out) hg (Kd.R_ne HO_6.out BK153.out (by decide))); have n2_ := Aside0.mk (hb); have n3_ := Aside0.mk (ho); clear HO_5; clear BK153; clear HB; clear HO_6; have HO_5 := n0_; have BK153 := n1_; have HB := n2_; have HO173 := n3_; clear n0_ n1_ n2_ n3_; clear ho hb hg hat))
                      (try simp only [← hl5_48])
                      go_roundg kj48
                      case measure => have := HK1.out; have := HJ13.out; have := HJ48.out; omega
                      case rel => exact ⟨(y151), (y171), H', ⟨by have := HK1.out; have := HJ13.out; have := HJ48.out; omega⟩, ⟨by (try simp only [hl5_48]); (with_reducible repeat (first | apply Kd.R_alloc | apply Kd.R_drewN | apply Kd.R_drew)); exact HO_5.out⟩, ⟨by (try simp only [hl5_48]); (with_reducible repeat (first | apply Kd.R_alloc | apply Kd.R_drewN | apply Kd.R_drew)); exact HO173.out⟩, ⟨by repeat (first | (with_reducible first | exact HB.out | apply below_alloc | apply pw_below_drewN | apply below_drew1 | refine below_set ?_ GE153.out) | exact HB.out)⟩⟩
                     ·rw [if_neg c63] at H
                      exact absurd H (by simp)
              ·rw [if_neg c26] at H
               exact absurd H (by simp)
             ·rw [if_neg c24] at H
              exact absurd H (by simp)
            ·rw [if_neg c23] at H
             exact absurd H (by simp)
        ·rw [if_neg c13] at H
         exact absurd H (by simp)
       ·rw [if_neg c12] at H
        exact absurd H (by simp)
      ·rw [if_neg c11] at H
       exact absurd H (by simp)
     ·rw [if_neg c9] at H
      have c9b0 : decide (0 < (x6_1.length : Int)) = false := decide_eq_false c9
      have c9b1 : decide (0 < x6_1.length) = false := decide_eq_false (by omega)
      clear c9
      obtain rfl := Option.some.inj H
      obtain ⟨Ao65, co65, eo65⟩ := Kd.R_slice HO_6.out
      subst eo65
      go_wp2
      go_ret
      exact ⟨_, by first | rfl | (simp [errW_none, errW_some] <;> rfl) | (simp [*, errW_none, errW_some] <;> rfl), by (with_reducible repeat (first | apply Kd.R_alloc | apply Kd.R_drewN | apply Kd.R_drew)); exact HO_5.out, by repeat (first | (with_reducible first | exact HB.out | apply below_alloc | apply pw_below_drewN | apply below_drew1) | exact HB.out)⟩
  ·rw [if_neg c4] at H
   exact absurd H (by simp)
 ·rw [if_neg c3] at H
  exact absurd H (by simp)
end Go.Proofs.Ytedghbjmhcgilaa.POpt
end
