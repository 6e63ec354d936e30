import Derived.OwnWalk
import Derived.Lib.Hide
import Derived.Test.YtedghbjmhcgilaaKt4
import Derived.Test.YtedghbjmhcgilaaKt14
import Derived.Test.YtedghbjmhcgilaaKt15
section
namespace Go.Proofs.Ytedghbjmhcgilaa.POpt
open Go.RowKit Go.Proofs.YtedghbjmhcgilaaW.PrintWords Go.Proofs.YtedghbjmhcgilaaW.PrintLast Go.Proofs.YtedghbjmhcgilaaW.PrintMore
attribute [local go_sem] max2_int min2_int max_two min_two max_three min_three max_four min_four
set_option linter.unusedVariables false
set_option linter.unusedSimpArgs false
def cartoucheref13_isScalar.f (a0 : Int) : Option (Bool) := if a0 ≥ 1 then (some (decide (a0 ≤ 16))) else (some false)
set_option maxHeartbeats 8000000 in
set_option maxRecDepth 100000 in
theorem cartoucheref13_isScalar.calls (a0 : Int) (r : Bool) (w : World) (h : cartoucheref13_isScalar.f a0 = some r) :
  Calls Try.prog 72 #[.int .i64 a0] w fun e w' => e = .returned (.bool r) ∧ Drawn0 w w' := by
 have H : (if a0 ≥ 1 then (some (decide (a0 ≤ 16))) else (some false)) = some r := h
 clear h
 by_cases c2 : a0 ≥ 1
 ·rw [if_pos c2] at H
  have c2b0 : decide (1 ≤ a0) = true := decide_eq_true c2
  clear c2
  obtain rfl := Option.some.inj H
  go_enter Try.func72, Try.ntmps72
  go_wp2
  go_ret
  exact ⟨by first | rfl | (simp; done) | (simp [*]; done), by repeat (first | exact Drawn0.refl _ | apply Drawn0.step)⟩
 ·rw [if_neg c2] at H
  have c2b0 : decide (1 ≤ a0) = false := decide_eq_false c2
  clear c2
  obtain rfl := Option.some.inj H
  go_enter Try.func72, Try.ntmps72
  go_wp2
  go_ret
  exact ⟨by first | rfl | (simp; done) | (simp [*]; done), by repeat (first | exact Drawn0.refl _ | apply Drawn0.step)⟩
end Go.Proofs.Ytedghbjmhcgilaa.POpt
end
section
namespace Go.Proofs.Ytedghbjmhcgilaa.POpt
open Go.RowKit Go.Proofs.YtedghbjmhcgilaaW.PrintWords Go.Proofs.YtedghbjmhcgilaaW.PrintLast Go.Proofs.YtedghbjmhcgilaaW.PrintMore
attribute [local go_sem] max2_int min2_int max_two min_two max_three min_three max_four min_four
set_option linter.unusedVariables false
set_option linter.unusedSimpArgs false
def cartoucheref13_isEnum.f (l0_0 : List (S30)) (a1 : Int) : Option (Bool) := if a1 ≥ 0 then (if a1 < (l0_0.length : Int) then (if 0 ≤ a1 then (if (((rd_T30 l0_0 a1).f0).length : Int) = 0 then (some ((((rd_T30 l0_0 a1).f1).length : Int) == 0)) else (some false)) else (none)) else (some false)) else (some false)
set_option maxHeartbeats 8000000 in
set_option maxRecDepth 100000 in
theorem cartoucheref13_isEnum.calls (A0_0 : Option Addr) (c0_0 : Nat) (l0_0 : List (S30)) (a1 : Int) (r : Bool) (w : World) (hr0_0 : Kd.C k30 w A0_0 l0_0.length l0_0) (hc0_0 : l0_0.length ≤ c0_0) (h : cartoucheref13_isEnum.f l0_0 a1 = some r) :
  Calls Try.prog 73 #[.agg #[.slice A0_0 l0_0.length c0_0], .int .i64 a1] w fun e w' => e = .returned (.bool r) ∧ Below w.heap.size w w' := by
 have hu24 := Try.underlying24
 have HR0_0 := Aside0.mk hr0_0
 have HC0_0 := Aside0.mk hc0_0
 clear hr0_0 hc0_0
 have HB := Aside0.mk (Below.refl w.heap.size w)
 have H : (if a1 ≥ 0 then (if a1 < (l0_0.length : Int) then (if 0 ≤ a1 then (if (((rd_T30 l0_0 a1).f0).length : Int) = 0 then (some ((((rd_T30 l0_0 a1).f1).length : Int) == 0)) else (some false)) else (none)) else (some false)) else (some false)) = some r := h
 clear h
 by_cases c3 : a1 ≥ 0
 ·rw [if_pos c3] at H
  have c3b0 : decide (0 ≤ a1) = true := decide_eq_true c3
  clear c3
  by_cases c4 : a1 < (l0_0.length : Int)
  ·rw [if_pos c4] at H
   have c4b0 : decide (a1 < (l0_0.length : Int)) = true := decide_eq_true c4
   clear c4
   by_cases c5 : 0 ≤ a1
   ·rw [if_pos c5] at H
    have c5b0 : decide (0 ≤ a1) = true := decide_eq_true c5
    clear c5
    by_cases c6 : (((rd_T30 l0_0 a1).f0).length : Int) = 0
    ·rw [if_pos c6] at H
     have c6b0 : ((((rd_T30 l0_0 a1).f0).length : Int) == 0) = true := beq_iff_eq.mpr c6
     have c6b1 : ((((rd_T30 l0_0 a1).f0).length : Int) != 0) = false := bne_eq_false_iff_eq.mpr c6
     clear c6
     obtain rfl := Option.some.inj H
     go_enter Try.func73, Try.ntmps73
     go_wp2_with (first | ((with_reducible refine gate_dst (N := 2) rfl ?_); (try (refine gate_guard (by rfl) ?_; dsimp only)); refine box_event ?hg (N := 2) ?hd (cs := #[.slice A0_0 l0_0.length c0_0]) (t := 24) ?hr ?_; (case hd => rfl); (case hg => rfl); (case hr => first | (go_simp; done) | (go_simp; rfl)); intro gb230 hg w7 hbox hb; have n0_ := Aside0.mk (below_step (by repeat (first | (with_reducible first | exact HB.out | apply below_alloc | apply pw_below_drewN | apply below_drew1) | exact HB.out)) hb); have n1_ := Aside0.mk (hbox); have n2_ := Aside0.mk ((by rw [hg]; exact (below_size (by repeat (first | (with_reducible first | exact HB.out | apply below_alloc | apply pw_below_drewN | apply below_drew1) | exact HB.out))) : w.heap.size ≤ gb230)); have n3_ := Aside0.mk ((by rw [hg]; exact (below_size (by repeat (first | (with_reducible first | exact HB.out | apply below_alloc | apply pw_below_drewN | apply below_drew1) | exact HB.out))) : w.heap.size ≤ gb230)); clear HB; have HB := n0_; have BK230 := n1_; have GW230 := n2_; have GE230 := n3_; clear n0_ n1_ n2_ n3_; clear hb hbox hg; have hcz8_0 : w7.cell? ⟨gb230, 0, none⟩ = some (.slice A0_0 l0_0.length c0_0) := (blk_cell BK230.out 0).trans rfl; have hfz8_0 := blk_frozen BK230.out 0; have p231 : 0 ≤ (a1 : Int) := of_decide_eq_true (by first | (with_reducible assumption) | assumption); have q231 : a1 < (l0_0.length : Int) := of_decide_eq_true (by first | (with_reducible assumption) | assumption); obtain ⟨ad231, A231_0, c231_0, A231_1, c231_1, A231_2, c231_2, e231, hx231_0, hx231_1, hx231_2, hl231_0, hi231_0, hl231_1, hi231_1, hl231_2, hi231_2⟩ := at_T30 HR0_0.out a1 p231 q231; cases e231; replace hx231_0 := (HB.out.cell (World.block_lt_of_cell? w _ hx231_0)).trans hx231_0; replace hx231_1 := (HB.out.cell (World.block_lt_of_cell? w _ hx231_1)).trans hx231_1; replace hx231_2 := (HB.out.cell (World.block_lt_of_cell? w _ hx231_2)).trans hx231_2; have HR231_0 := Aside0.mk hi231_0; have HC231_0 := Aside0.mk hl231_0; clear hi231_0 hl231_0; have HR231_1 := Aside0.mk hi231_1; have HC231_1 := Aside0.mk hl231_1; clear hi231_1 hl231_1; have HR231_2 := Aside0.mk hi231_2; have HC231_2 := Aside0.mk hl231_2; clear hi231_2 hl231_2; replace p231 := eq_true p231; replace q231 := eq_true q231; have p232 : 0 ≤ (a1 : Int) := of_decide_eq_true (by first | (with_reducible assumption) | assumption); have q232 : a1 < (l0_0.length : Int) := of_decide_eq_true (by first | (with_reducible assumption) | assumption); obtain ⟨ad232, A232_0, c232_0, A232_1, c232_1, A232_2, c232_2, e232, hx232_0, hx232_1, hx232_2, hl232_0, hi232_0, hl232_1, hi232_1, hl232_2, hi232_2⟩ := at_T30 HR0_0.out a1 p232 q232; obtain rfl : ad231 = ad232 := (by injection e232); replace hx232_0 := (HB.out.cell (World.block_lt_of_cell? w _ hx232_0)).trans hx232_0; replace hx232_1 := (HB.out.cell (World.block_lt_of_cell? w _ hx232_1)).trans hx232_1; replace hx232_2 := (HB.out.cell (World.block_lt_of_cell? w _ hx232_2)).trans hx232_2; have HR232_0 := Aside0.mk hi232_0; have HC232_0 := Aside0.mk hl232_0; clear hi232_0 hl232_0; have HR232_1 := Aside0.mk hi232_1; have HC232_1 := Aside0.mk hl232_1; clear hi232_1 hl232_1; have HR232_2 := Aside0.mk hi232_2; have HC232_2 := Aside0.mk hl232_2; clear hi232_2 hl232_2; replace p232 := eq_true p232; replace q232 := eq_true q232; have ea_ := Option.some.inj (hx231_0.symm.trans hx232_0); injection ea_ with ea_ en_ ec_; subst ea_; subst ec_; clear en_; have ea_ := Option.some.inj (hx231_1.symm.trans hx232_1); injection ea_ with ea_ en_ ec_; subst ea_; subst ec_; clear en_; have ea_ := Option.some.inj (hx231_2.symm.trans hx232_2); injection ea_ with ea_ en_ ec_; subst ea_; subst ec_; clear en_))
     go_ret
     exact ⟨by first | rfl | (simp [errW_none, errW_some] <;> rfl) | (simp [*, errW_none, errW_some] <;> rfl), by repeat (first | (with_reducible first | exact HB.out | apply below_alloc | apply pw_below_drewN | apply below_drew1 | refine below_set ?_ GE230.out) | exact HB.out)⟩
    ·rw [if_neg c6] at H
     have c6b0 : ((((rd_T30 l0_0 a1).f0).length : Int) == 0) = false := beq_eq_false_iff_ne.mpr c6
     have c6b1 : ((((rd_T30 l0_0 a1).f0).length : Int) != 0) = true := bne_iff_ne.mpr c6
     have c6b2 : ¬ (((rd_T30 l0_0 a1).f0) = []) := fun h_ => c6 (by rw [h_]; rfl)
     obtain rfl := Option.some.inj H
     go_enter Try.func73, Try.ntmps73
     go_wp2_with (first | ((with_reducible refine gate_dst (N := 2) rfl ?_); (try (refine gate_guard (by rfl) ?_; dsimp only)); refine box_event ?hg (N := 2) ?hd (cs := #[.slice A0_0 l0_0.length c0_0]) (t := 24) ?hr ?_; (case hd => rfl); (case hg => rfl); (case hr => first | (go_simp; done) | (go_simp; rfl)); intro gb230 hg w9 hbox hb; have n0_ := Aside0.mk (below_step (by repeat (first | (with_reducible first | exact HB.out | apply below_alloc | apply pw_below_drewN | apply below_drew1) | exact HB.out)) hb); have n1_ := Aside0.mk (hbox); have n2_ := Aside0.mk ((by rw [hg]; exact (below_size (by repeat (first | (with_reducible first | exact HB.out | apply below_alloc | apply pw_below_drewN | apply below_drew1) | exact HB.out))) : w.heap.size ≤ gb230)); have n3_ := Aside0.mk ((by rw [hg]; exact (below_size (by repeat (first | (with_reducible first | exact HB.out | apply below_alloc | apply pw_below_drewN | apply below_drew1) | exact HB.out))) : w.heap.size ≤ gb230)); clear HB; have HB := n0_; have BK230 := n1_; have GW230 := n2_; have GE230 := n3_; clear n0_ n1_ n2_ n3_; clear hb hbox hg; have hcz10_0 : w9.cell? ⟨gb230, 0, none⟩ = some (.slice A0_0 l0_0.length c0_0) := (blk_cell BK230.out 0).trans rfl; have hfz10_0 := blk_frozen BK230.out 0; have p231 : 0 ≤ (a1 : Int) := of_decide_eq_true (by first | (with_reducible assumption) | assumption); have q231 : a1 < (l0_0.length : Int) := of_decide_eq_true (by first | (with_reducible assumption) | assumption); obtain ⟨ad231, A231_0, c231_0, A231_1, c231_1, A231_2, c231_2, e231, hx231_0, hx231_1, hx231_2, hl231_0, hi231_0, hl231_1, hi231_1, hl231_2, hi231_2⟩ := at_T30 HR0_0.out a1 p231 q231; cases e231; replace hx231_0 := (HB.out.cell (World.block_lt_of_cell? w _ hx231_0)).trans hx231_0; replace hx231_1 := (HB.out.cell (World.block_lt_of_cell? w _ hx231_1)).trans hx231_1; replace hx231_2 := (HB.out.cell (World.block_lt_of_cell? w _ hx231_2)).trans hx231_2; have HR231_0 := Aside0.mk hi231_0; have HC231_0 := Aside0.mk hl231_0; clear hi231_0 hl231_0; have HR231_1 := Aside0.mk hi231_1; have HC231_1 := Aside0.mk hl231_1; clear hi231_1 hl231_1; have HR231_2 := Aside0.mk hi231_2; have HC231_2 := Aside0.mk hl231_2; clear hi231_2 hl231_2; replace p231 := eq_true p231; replace q231 := eq_true q231))
     go_ret
     exact ⟨by first | rfl | (simp [errW_none, errW_some] <;> rfl) | (simp [*, errW_none, errW_some] <;> rfl), by repeat (first | (with_reducible first | exact HB.out | apply below_alloc | apply pw_below_drewN | apply below_drew1 | refine below_set ?_ GE230.out) | exact HB.out)⟩
   ·rw [if_neg c5] at H
    exact absurd H (by simp)
  ·rw [if_neg c4] at H
   have c4b0 : decide (a1 < (l0_0.length : Int)) = false := decide_eq_false c4
   clear c4
   obtain rfl := Option.some.inj H
   go_enter Try.func73, Try.ntmps73
   go_wp2_with (first | ((with_reducible refine gate_dst (N := 2) rfl ?_); (try (refine gate_guard (by rfl) ?_; dsimp only)); refine box_event ?hg (N := 2) ?hd (cs := #[.slice A0_0 l0_0.length c0_0]) (t := 24) ?hr ?_; (case hd => rfl); (case hg => rfl); (case hr => first | (go_simp; done) | (go_simp; rfl)); intro gb230 hg w11 hbox hb; have n0_ := Aside0.mk (below_step (by repeat (first | (with_reducible first | exact HB.out | apply below_alloc | apply pw_below_drewN | apply below_drew1) | exact HB.out)) hb); have n1_ := Aside0.mk (hbox); have n2_ := Aside0.mk ((by rw [hg]; exact (below_size (by repeat (first | (with_reducible first | exact HB.out | apply below_alloc | apply pw_below_drewN | apply below_drew1) | exact HB.out))) : w.heap.size ≤ gb230)); have n3_ := Aside0.mk ((by rw [hg]; exact (below_size (by repeat (first | (with_reducible first | exact HB.out | apply below_alloc | apply pw_below_drewN | apply below_drew1) | exact HB.out))) : w.heap.size ≤ gb230)); clear HB; have HB := n0_; have BK230 := n1_; have GW230 := n2_; have GE230 := n3_; clear n0_ n1_ n2_ n3_; clear hb hbox hg; have hcz12_0 : w11.cell? ⟨gb230, 0, none⟩ = some (.slice A0_0 l0_0.length c0_0) := (blk_cell BK230.out 0).trans rfl; have hfz12_0 := blk_frozen BK230.out 0))
   go_ret
   exact ⟨by first | rfl | (simp [errW_none, errW_some] <;> rfl) | (simp [*, errW_none, errW_some] <;> rfl), by repeat (first | (with_reducible first | exact HB.out | apply below_alloc | apply pw_below_drewN | apply below_drew1 | refine below_set ?_ GE230.out) | exact HB.out)⟩
 ·rw [if_neg c3] at H
  have c3b0 : decide (0 ≤ a1) = false := decide_eq_false c3
  clear c3
  obtain rfl := Option.some.inj H
  go_enter Try.func73, Try.ntmps73
  go_wp2_with (first | ((with_reducible refine gate_dst (N := 2) rfl ?_); (try (refine gate_guard (by rfl) ?_; dsimp only)); refine box_event ?hg (N := 2) ?hd (cs := #[.slice A0_0 l0_0.length c0_0]) (t := 24) ?hr ?_; (case hd => rfl); (case hg => rfl); (case hr => first | (go_simp; done) | (go_simp; rfl)); intro gb230 hg w13 hbox hb; have n0_ := Aside0.mk (below_step (by repeat (first | (with_reducible first | exact HB.out | apply below_alloc | apply pw_below_drewN | apply below_drew1) | exact HB.out)) hb); have n1_ := Aside0.mk (hbox); have n2_ := Aside0.mk ((by rw [hg]; exact (below_size (by repeat (first | (with_reducible first | exact HB.out | apply below_alloc | apply pw_below_drewN | apply below_drew1) | exact HB.out))) : w.heap.size ≤ gb230)); have n3_ := Aside0.mk ((by rw [hg]; exact (below_size (by repeat (first | (with_reducible first | exact HB.out | apply below_alloc | apply pw_below_drewN | apply below_drew1) | exact HB.out))) : w.heap.size ≤ gb230)); clear HB; have HB := n0_; have BK230 := n1_; have GW230 := n2_; have GE230 := n3_; clear n0_ n1_ n2_ n3_; clear hb hbox hg))
  go_ret
  exact ⟨by first | rfl | (simp [errW_none, errW_some] <;> rfl) | (simp [*, errW_none, errW_some] <;> rfl), by repeat (first | (with_reducible first | exact HB.out | apply below_alloc | apply pw_below_drewN | apply below_drew1 | refine below_set ?_ GE230.out) | exact HB.out)⟩
end Go.Proofs.Ytedghbjmhcgilaa.POpt
end
section
namespace Go.Proofs.Ytedghbjmhcgilaa.POpt
open Go.RowKit Go.Proofs.YtedghbjmhcgilaaW.PrintWords Go.Proofs.YtedghbjmhcgilaaW.PrintLast Go.Proofs.YtedghbjmhcgilaaW.PrintMore
attribute [local go_sem] max2_int min2_int max_two min_two max_three min_three max_four min_four
set_option linter.unusedVariables false
set_option linter.unusedSimpArgs false
mutual
def cartoucheref3_Wire.j0 : Nat → Int → Bool → Option (Int)
 | 0, _, _ => none
 | k + 1, x3, x4 => if x4 = true then (some 0) else (if x3 = 8 then (cartoucheref3_Wire.j1 k x3 (x3 == 8)) else (if x3 = 10 then (cartoucheref3_Wire.j1 k x3 (x3 == 10)) else (cartoucheref3_Wire.j1 k x3 (x3 == 12))))
def cartoucheref3_Wire.j1 : Nat → Int → Bool → Option (Int)
 | 0, _, _ => none
 | k + 1, x3, x13 => if x13 = true then (some 5) else (if x3 = 9 then (cartoucheref3_Wire.j2 k x3 (x3 == 9)) else (if x3 = 11 then (cartoucheref3_Wire.j2 k x3 (x3 == 11)) else (cartoucheref3_Wire.j2 k x3 (x3 == 13))))
def cartoucheref3_Wire.j2 : Nat → Int → Bool → Option (Int)
 | 0, _, _ => none
 | k + 1, x3, x17 => if x17 = true then (some 1) else (if x3 = 14 then (some 2) else (if x3 = 15 then (some 2) else (if x3 = 17 then (some 2) else (some (-1)))))
end
def cartoucheref3_Wire.f (k : Nat) (a0 : Int) : Option (Int) := if a0 = 1 then (cartoucheref3_Wire.j0 k a0 (a0 == 1)) else (if a0 = 2 then (cartoucheref3_Wire.j0 k a0 (a0 == 2)) else (if a0 = 3 then (cartoucheref3_Wire.j0 k a0 (a0 == 3)) else (if a0 = 4 then (cartoucheref3_Wire.j0 k a0 (a0 == 4)) else (if a0 = 5 then (cartoucheref3_Wire.j0 k a0 (a0 == 5)) else (if a0 = 6 then (cartoucheref3_Wire.j0 k a0 (a0 == 6)) else (if a0 = 7 then (cartoucheref3_Wire.j0 k a0 (a0 == 7)) else (cartoucheref3_Wire.j0 k a0 (a0 == 16))))))))
set_option maxHeartbeats 8000000 in
set_option maxRecDepth 100000 in
theorem cartoucheref3_Wire.calls (k : Nat) (a0 : Int) (r : Int) (w : World) (h : cartoucheref3_Wire.f k a0 = some r) :
  Calls Try.prog 99 #[.int .i64 a0] w fun e w' => e = .returned (.int .i64 r) ∧ Drawn0 w w' := by
 have H : (if a0 = 1 then (cartoucheref3_Wire.j0 k a0 (a0 == 1)) else (if a0 = 2 then (cartoucheref3_Wire.j0 k a0 (a0 == 2)) else (if a0 = 3 then (cartoucheref3_Wire.j0 k a0 (a0 == 3)) else (if a0 = 4 then (cartoucheref3_Wire.j0 k a0 (a0 == 4)) else (if a0 = 5 then (cartoucheref3_Wire.j0 k a0 (a0 == 5)) else (if a0 = 6 then (cartoucheref3_Wire.j0 k a0 (a0 == 6)) else (if a0 = 7 then (cartoucheref3_Wire.j0 k a0 (a0 == 7)) else (cartoucheref3_Wire.j0 k a0 (a0 == 16))))))))) = some r := h
 clear h
 have HC2 := Aside0.mk H
 clear H
 go_enter Try.func99, Try.ntmps99
 go_upto_if 4 with (fail)
 go_cut [4] (fun v4 wc => ∃ (kq : Nat) (x4_1 : Bool), v4 = .bool x4_1 ∧ Aside0 (cartoucheref3_Wire.j0 kq a0 x4_1 = some r) ∧ Aside0 (kq ≤ k) ∧ Drawn0 w wc)
 case first =>
  have H := HC2.out
  clear HC2
  by_cases c3 : a0 = 1
  ·rw [if_pos c3] at H
   have c3b0 : (a0 == 1) = true := beq_iff_eq.mpr c3
   have c3b1 : (a0 != 1) = false := bne_eq_false_iff_eq.mpr c3
   clear c3
   (first | rw [c3b0] | (simp only [i64_w, i32_w]; rw [c3b0]) | skip)
   have H' := Aside0.mk H
   clear H
   go_wp2
   go_meet
   case rel => exact ⟨_, ((a0 == 1)), (by first | rfl | (simp; done) | (simp [*]; done)), H', ⟨by first | omega | exact Nat.le_refl _⟩, by repeat (first | exact Drawn0.refl _ | apply Drawn0.step)⟩
  ·rw [if_neg c3] at H
   have c3b0 : (a0 == 1) = false := beq_eq_false_iff_ne.mpr c3
   have c3b1 : (a0 != 1) = true := bne_iff_ne.mpr c3
   (first | rw [c3b0] | (simp only [i64_w, i32_w]; rw [c3b0]) | skip)
   by_cases c4 : a0 = 2
   ·rw [if_pos c4] at H
    have c4b0 : (a0 == 2) = true := beq_iff_eq.mpr c4
    have c4b1 : (a0 != 2) = false := bne_eq_false_iff_eq.mpr c4
    clear c4
    have H' := Aside0.mk H
    clear H
    go_wp2
    go_meet
    case rel => exact ⟨_, ((a0 == 2)), (by first | rfl | (simp; done) | (simp [*]; done)), H', ⟨by first | omega | exact Nat.le_refl _⟩, by repeat (first | exact Drawn0.refl _ | apply Drawn0.step)⟩
   ·rw [if_neg c4] at H
    have c4b0 : (a0 == 2) = false := beq_eq_false_iff_ne.mpr c4
    have c4b1 : (a0 != 2) = true := bne_iff_ne.mpr c4
    by_cases c5 : a0 = 3
    ·rw [if_pos c5] at H
     have c5b0 : (a0 == 3) = true := beq_iff_eq.mpr c5
     have c5b1 : (a0 != 3) = false := bne_eq_false_iff_eq.mpr c5
     clear c5
     have H' := Aside0.mk H
     clear H
     go_wp2
     go_meet
     case rel => exact ⟨_, ((a0 == 3)), (by first | rfl | (simp; done) | (simp [*]; done)), H', ⟨by first | omega | exact Nat.le_refl _⟩, by repeat (first | exact Drawn0.refl _ | apply Drawn0.step)⟩
    ·rw [if_neg c5] at H
     have c5b0 : (a0 == 3) = false := beq_eq_false_iff_ne.mpr c5
     have c5b1 : (a0 != 3) = true := bne_iff_ne.mpr c5
     by_cases c6 : a0 = 4
     ·rw [if_pos c6] at H
      have c6b0 : (a0 == 4) = true := beq_iff_eq.mpr c6
      have c6b1 : (a0 != 4) = false := bne_eq_false_iff_eq.mpr c6
      clear c6
      have H' := Aside0.mk H
      clear H
      go_wp2
      go_meet
      case rel => exact ⟨_, ((a0 == 4)), (by first | rfl | (simp; done) | (simp [*]; done)), H', ⟨by first | omega | exact Nat.le_refl _⟩, by repeat (first | exact Drawn0.refl _ | apply Drawn0.step)⟩
     ·rw [if_neg c6] at H
      have c6b0 : (a0 == 4) = false := beq_eq_false_iff_ne.mpr c6
      have c6b1 : (a0 != 4) = true := bne_iff_ne.mpr c6
      by_cases c7 : a0 = 5
      ·rw [if_pos c7] at H
       have c7b0 : (a0 == 5) = true := beq_iff_eq.mpr c7
       have c7b1 : (a0 != 5) = false := bne_eq_false_iff_eq.mpr c7
       clear c7
       have H' := Aside0.mk H
       clear H
       go_wp2
       go_meet
       case rel => exact ⟨_, ((a0 == 5)), (by first | rfl | (simp; done) | (simp [*]; done)), H', ⟨by first | omega | exact Nat.le_refl _⟩, by repeat (first | exact Drawn0.refl _ | apply Drawn0.step)⟩
      ·rw [if_neg c7] at H
       have c7b0 : (a0 == 5) = false := beq_eq_false_iff_ne.mpr c7
       have c7b1 : (a0 != 5) = true := bne_iff_ne.mpr c7
       by_cases c8 : a0 = 6
       ·rw [if_pos c8] at H
        have c8b0 : (a0 == 6) = true := beq_iff_eq.mpr c8
        have c8b1 : (a0 != 6) = false := bne_eq_false_iff_eq.mpr c8
        clear c8
        have H' := Aside0.mk H
        clear H
        go_wp2
        go_meet
        case rel => exact ⟨_, ((a0 == 6)), (by first | rfl | (simp; done) | (simp [*]; done)), H', ⟨by first | omega | exact Nat.le_refl _⟩, by repeat (first | exact Drawn0.refl _ | apply Drawn0.step)⟩
       ·rw [if_neg c8] at H
        have c8b0 : (a0 == 6) = false := beq_eq_false_iff_ne.mpr c8
        have c8b1 : (a0 != 6) = true := bne_iff_ne.mpr c8
        by_cases c9 : a0 = 7
        ·rw [if_pos c9] at H
         have c9b0 : (a0 == 7) = true := beq_iff_eq.mpr c9
         have c9b1 : (a0 != 7) = false := bne_eq_false_iff_eq.mpr c9
         clear c9
         have H' := Aside0.mk H
         clear H
         go_wp2
         go_meet
         case rel => exact ⟨_, ((a0 == 7)), (by first | rfl | (simp; done) | (simp [*]; done)), H', ⟨by first | omega | exact Nat.le_refl _⟩, by repeat (first | exact Drawn0.refl _ | apply Drawn0.step)⟩
        ·rw [if_neg c9] at H
         have c9b0 : (a0 == 7) = false := beq_eq_false_iff_ne.mpr c9
         have c9b1 : (a0 != 7) = true := bne_iff_ne.mpr c9
         have H' := Aside0.mk H
         clear H
         go_wp2
         go_meet
         case rel => exact ⟨_, ((a0 == 16)), (by first | rfl | (simp; done) | (simp [*]; done)), H', ⟨by first | omega | exact Nat.le_refl _⟩, by repeat (first | exact Drawn0.refl _ | apply Drawn0.step)⟩
 case rest =>
  clear HC2
  try clear p2
  try clear c3
  try clear c3b0
  try clear c3b1
  try clear c4
  try clear c4b0
  try clear c4b1
  try clear c5
  try clear c5b0
  try clear c5b1
  try clear c6
  try clear c6b0
  try clear c6b1
  try clear c7
  try clear c7b0
  try clear c7b1
  try clear c8
  try clear c8b0
  try clear c8b1
  try clear c9
  try clear c9b0
  try clear c9b1
  obtain ⟨kq, x4_1, rfl, HA, HJ1, ⟨mc1, rfl⟩⟩ := hcut
  cases kq with
  | zero => exact absurd HA.out (by simp [cartoucheref3_Wire.j0])
  | succ kj1 =>
   have H := HA.out
   clear HA
   simp only [cartoucheref3_Wire.j0] at H
   by_cases c10 : x4_1 = true
   ·subst c10
    have H1 : (some 0) = some r := by rw [if_pos rfl] at H; exact H
    clear H
    have H := H1
    clear H1
    obtain rfl := Option.some.inj H
    go_wp2
    go_ret
    exact ⟨by first | rfl | (simp; done) | (simp [*]; done), by repeat (first | exact Drawn0.refl _ | apply Drawn0.step)⟩
   ·replace c10 := Bool.eq_false_iff.mpr c10
    subst c10
    have H1 : (if a0 = 8 then (cartoucheref3_Wire.j1 kj1 a0 (a0 == 8)) else (if a0 = 10 then (cartoucheref3_Wire.j1 kj1 a0 (a0 == 10)) else (cartoucheref3_Wire.j1 kj1 a0 (a0 == 12)))) = some r := by rw [if_neg (show ¬ (false = true) by decide)] at H; exact H
    clear H
    have H := H1
    clear H1
    have HC11 := Aside0.mk H
    clear H
    go_upto_if 13 with (fail)
    go_cut [13] (fun v13 wc => ∃ (kq : Nat) (x13_10 : Bool), v13 = .bool x13_10 ∧ Aside0 (cartoucheref3_Wire.j1 kq a0 x13_10 = some r) ∧ Aside0 (kq ≤ kj1) ∧ Drawn0 w wc)
    case first =>
     have H := HC11.out
     clear HC11
     by_cases c12 : a0 = 8
     ·rw [if_pos c12] at H
      have c12b0 : (a0 == 8) = true := beq_iff_eq.mpr c12
      have c12b1 : (a0 != 8) = false := bne_eq_false_iff_eq.mpr c12
      clear c12
      (first | rw [c12b0] | (simp only [i64_w, i32_w]; rw [c12b0]) | skip)
      have H' := Aside0.mk H
      clear H
      go_wp2
      go_meet
      case rel => exact ⟨_, ((a0 == 8)), (by first | rfl | (simp; done) | (simp [*]; done)), H', ⟨by have := HJ1.out; first | omega | exact Nat.le_refl _⟩, by repeat (first | exact Drawn0.refl _ | apply Drawn0.step)⟩
     ·rw [if_neg c12] at H
      have c12b0 : (a0 == 8) = false := beq_eq_false_iff_ne.mpr c12
      have c12b1 : (a0 != 8) = true := bne_iff_ne.mpr c12
      (first | rw [c12b0] | (simp only [i64_w, i32_w]; rw [c12b0]) | skip)
      by_cases c13 : a0 = 10
      ·rw [if_pos c13] at H
       have c13b0 : (a0 == 10) = true := beq_iff_eq.mpr c13
       have c13b1 : (a0 != 10) = false := bne_eq_false_iff_eq.mpr c13
       clear c13
       have H' := Aside0.mk H
       clear H
       go_wp2
       go_meet
       case rel => exact ⟨_, ((a0 == 10)), (by first | rfl | (simp; done) | (simp [*]; done)), H', ⟨by have := HJ1.out; first | omega | exact Nat.le_refl _⟩, by repeat (first | exact Drawn0.refl _ | apply Drawn0.step)⟩
      ·rw [if_neg c13] at H
       have c13b0 : (a0 == 10) = false := beq_eq_false_iff_ne.mpr c13
       have c13b1 : (a0 != 10) = true := bne_iff_ne.mpr c13
       have H' := Aside0.mk H
       clear H
       go_wp2
       go_meet
       case rel => exact ⟨_, ((a0 == 12)), (by first | rfl | (simp; done) | (simp [*]; done)), H', ⟨by have := HJ1.out; first | omega | exact Nat.le_refl _⟩, by repeat (first | exact Drawn0.refl _ | apply Drawn0.step)⟩
    case rest =>
     clear HC11
     try clear c1
     try clear p2
     try clear c3
     try clear c3b0
     try clear c3b1
     try clear c4
     try clear c4b0
     try clear c4b1
     try clear c5
     try clear c5b0
     try clear c5b1
     try clear c6
     try clear c6b0
     try clear c6b1
     try clear c7
     try clear c7b0
     try clear c7b1
     try clear c8
     try clear c8b0
     try clear c8b1
     try clear c9
     try clear c9b0
     try clear c9b1
     try clear c10
     try clear c12
     try clear c12b0
     try clear c12b1
     try clear c13
     try clear c13b0
     try clear c13b1
     try clear p2
     obtain ⟨kq, x13_10, rfl, HA, HJ10, ⟨mc10, rfl⟩⟩ := hcut
     cases kq with
     | zero => exact absurd HA.out (by simp [cartoucheref3_Wire.j1])
     | succ kj10 =>
      have H := HA.out
      clear HA
      simp only [cartoucheref3_Wire.j1] at H
      by_cases c14 : x13_10 = true
      ·subst c14
       have H1 : (some 5) = some r := by rw [if_pos rfl] at H; exact H
       clear H
       have H := H1
       clear H1
       obtain rfl := Option.some.inj H
       go_wp2
       go_ret
       exact ⟨by first | rfl | (simp; done) | (simp [*]; done), by repeat (first | exact Drawn0.refl _ | apply Drawn0.step)⟩
      ·replace c14 := Bool.eq_false_iff.mpr c14
       subst c14
       have H1 : (if a0 = 9 then (cartoucheref3_Wire.j2 kj10 a0 (a0 == 9)) else (if a0 = 11 then (cartoucheref3_Wire.j2 kj10 a0 (a0 == 11)) else (cartoucheref3_Wire.j2 kj10 a0 (a0 == 13)))) = some r := by rw [if_neg (show ¬ (false = true) by decide)] at H; exact H
       clear H
       have H := H1
       clear H1
       have HC15 := Aside0.mk H
       clear H
       go_upto_if 17 with (fail)
       go_cut [17] (fun v17 wc => ∃ (kq : Nat) (x17_14 : Bool), v17 = .bool x17_14 ∧ Aside0 (cartoucheref3_Wire.j2 kq a0 x17_14 = some r) ∧ Aside0 (kq ≤ kj10) ∧ Drawn0 w wc)
       case first =>
        have H := HC15.out
        clear HC15
        by_cases c16 : a0 = 9
        ·rw [if_pos c16] at H
         have c16b0 : (a0 == 9) = true := beq_iff_eq.mpr c16
         have c16b1 : (a0 != 9) = false := bne_eq_false_iff_eq.mpr c16
         clear c16
         (first | rw [c16b0] | (simp only [i64_w, i32_w]; rw [c16b0]) | skip)
         have H' := Aside0.mk H
         clear H
         go_wp2
         go_meet
         case rel => exact ⟨_, ((a0 == 9)), (by first | rfl | (simp; done) | (simp [*]; done)), H', ⟨by have := HJ1.out; have := HJ10.out; first | omega | exact Nat.le_refl _⟩, by repeat (first | exact Drawn0.refl _ | apply Drawn0.step)⟩
        ·rw [if_neg c16] at H
         have c16b0 : (a0 == 9) = false := beq_eq_false_iff_ne.mpr c16
         have c16b1 : (a0 != 9) = true := bne_iff_ne.mpr c16
         (first | rw [c16b0] | (simp only [i64_w, i32_w]; rw [c16b0]) | skip)
         by_cases c17 : a0 = 11
         ·rw [if_pos c17] at H
          have c17b0 : (a0 == 11) = true := beq_iff_eq.mpr c17
          have c17b1 : (a0 != 11) = false := bne_eq_false_iff_eq.mpr c17
          clear c17
          have H' := Aside0.mk H
          clear H
          go_wp2
          go_meet
          case rel => exact ⟨_, ((a0 == 11)), (by first | rfl | (simp; done) | (simp [*]; done)), H', ⟨by have := HJ1.out; have := HJ10.out; first | omega | exact Nat.le_refl _⟩, by repeat (first | exact Drawn0.refl _ | apply Drawn0.step)⟩
         ·rw [if_neg c17] at H
          have c17b0 : (a0 == 11) = false := beq_eq_false_iff_ne.mpr c17
          have c17b1 : (a0 != 11) = true := bne_iff_ne.mpr c17
          have H' := Aside0.mk H
          clear H
          go_wp2
          go_meet
          case rel => exact ⟨_, ((a0 == 13)), (by first | rfl | (simp; done) | (simp [*]; done)), H', ⟨by have := HJ1.out; have := HJ10.out; first | omega | exact Nat.le_refl _⟩, by repeat (first | exact Drawn0.refl _ | apply Drawn0.step)⟩
       case rest =>
        clear HC15
        try clear c1
        try clear p2
        try clear c3
        try clear c3b0
        try clear c3b1
        try clear c4
        try clear c4b0
        try clear c4b1
        try clear c5
        try clear c5b0
        try clear c5b1
        try clear c6
        try clear c6b0
        try clear c6b1
        try clear c7
        try clear c7b0
        try clear c7b1
        try clear c8
        try clear c8b0
        try clear c8b1
        try clear c9
        try clear c9b0
        try clear c9b1
        try clear c10
        try clear c12
        try clear c12b0
        try clear c12b1
        try clear c13
        try clear c13b0
        try clear c13b1
        try clear c14
        try clear c16
        try clear c16b0
        try clear c16b1
        try clear c17
        try clear c17b0
        try clear c17b1
        try clear p2
        obtain ⟨kq, x17_14, rfl, HA, HJ14, ⟨mc14, rfl⟩⟩ := hcut
        cases kq with
        | zero => exact absurd HA.out (by simp [cartoucheref3_Wire.j2])
        | succ kj14 =>
         have H := HA.out
         clear HA
         simp only [cartoucheref3_Wire.j2] at H
         by_cases c18 : x17_14 = true
         ·subst c18
          have H1 : (some 1) = some r := by rw [if_pos rfl] at H; exact H
          clear H
          have H := H1
          clear H1
          obtain rfl := Option.some.inj H
          go_wp2
          go_ret
          exact ⟨by first | rfl | (simp; done) | (simp [*]; done), by repeat (first | exact Drawn0.refl _ | apply Drawn0.step)⟩
         ·replace c18 := Bool.eq_false_iff.mpr c18
          subst c18
          have H1 : (if a0 = 14 then (some 2) else (if a0 = 15 then (some 2) else (if a0 = 17 then (some 2) else (some (-1))))) = some r := by rw [if_neg (show ¬ (false = true) by decide)] at H; exact H
          clear H
          have H := H1
          clear H1
          by_cases c19 : a0 = 14
          ·rw [if_pos c19] at H
           have c19b0 : (a0 == 14) = true := beq_iff_eq.mpr c19
           have c19b1 : (a0 != 14) = false := bne_eq_false_iff_eq.mpr c19
           clear c19
           obtain rfl := Option.some.inj H
           go_wp2
           go_ret
           exact ⟨by first | rfl | (simp; done) | (simp [*]; done), by repeat (first | exact Drawn0.refl _ | apply Drawn0.step)⟩
          ·rw [if_neg c19] at H
           have c19b0 : (a0 == 14) = false := beq_eq_false_iff_ne.mpr c19
           have c19b1 : (a0 != 14) = true := bne_iff_ne.mpr c19
           by_cases c20 : a0 = 15
           ·rw [if_pos c20] at H
            have c20b0 : (a0 == 15) = true := beq_iff_eq.mpr c20
            have c20b1 : (a0 != 15) = false := bne_eq_false_iff_eq.mpr c20
            clear c20
            obtain rfl := Option.some.inj H
            go_wp2
            go_ret
            exact ⟨by first | rfl | (simp; done) | (simp [*]; done), by repeat (first | exact Drawn0.refl _ | apply Drawn0.step)⟩
           ·rw [if_neg c20] at H
            have c20b0 : (a0 == 15) = false := beq_eq_false_iff_ne.mpr c20
            have c20b1 : (a0 != 15) = true := bne_iff_ne.mpr c20
            by_cases c21 : a0 = 17
            ·rw [if_pos c21] at H
             have c21b0 : (a0 == 17) = true := beq_iff_eq.mpr c21
             have c21b1 : (a0 != 17) = false := bne_eq_false_iff_eq.mpr c21
             clear c21
             obtain rfl := Option.some.inj H
             go_wp2
             go_ret
             exact ⟨by first | rfl | (simp; done) | (simp [*]; done), by repeat (first | exact Drawn0.refl _ | apply Drawn0.step)⟩
            ·rw [if_neg c21] at H
             have c21b0 : (a0 == 17) = false := beq_eq_false_iff_ne.mpr c21
             have c21b1 : (a0 != 17) = true := bne_iff_ne.mpr c21
             obtain rfl := Option.some.inj H
             go_wp2
             go_ret
             exact ⟨by first | rfl | (simp; done) | (simp [*]; done), by repeat (first | exact Drawn0.refl _ | apply Drawn0.step)⟩
end Go.Proofs.Ytedghbjmhcgilaa.POpt
end
section
namespace Go.Proofs.Ytedghbjmhcgilaa.POpt
open Go.RowKit Go.Proofs.YtedghbjmhcgilaaW.PrintWords Go.Proofs.YtedghbjmhcgilaaW.PrintLast Go.Proofs.YtedghbjmhcgilaaW.PrintMore
attribute [local go_sem] max2_int min2_int max_two min_two max_three min_three max_four min_four
set_option linter.unusedVariables false
set_option linter.unusedSimpArgs false
def cartoucheref3_Numeric.f (k : Nat) (a0 : Int) : Option (Bool) := (cartoucheref3_Wire.f k a0).bind fun t233 => (if t233 ≥ 0 then ((cartoucheref3_Wire.f k a0).bind fun t234 => (some (t234 != 2))) else (some false))
set_option maxHeartbeats 8000000 in
set_option maxRecDepth 100000 in
theorem cartoucheref3_Numeric.calls (k : Nat) (a0 : Int) (r : Bool) (w : World) (h : cartoucheref3_Numeric.f k a0 = some r) :
  Calls Try.prog 75 #[.int .i64 a0] w fun e w' => e = .returned (.bool r) ∧ Drawn0 w w' := by
 have H : ((cartoucheref3_Wire.f k a0).bind fun t233 => (if t233 ≥ 0 then ((cartoucheref3_Wire.f k a0).bind fun t234 => (some (t234 != 2))) else (some false))) = some r := h
 clear h
 replace H := Option.bind_eq_some_iff.mp H
 obtain ⟨t233, A20, H⟩ := H
 replace H : (if t233 ≥ 0 then ((cartoucheref3_Wire.f k a0).bind fun t234 => (some (t234 != 2))) else (some false)) = some r := H
 have A2 := Aside0.mk A20
 clear A20
 by_cases c3 : t233 ≥ 0
 ·rw [if_pos c3] at H
  have c3b0 : decide (0 ≤ t233) = true := decide_eq_true c3
  clear c3
  replace H := Option.bind_eq_some_iff.mp H
  obtain ⟨t234, A40, H⟩ := H
  replace H : (some (t234 != 2)) = some r := H
  have A4 := Aside0.mk A40
  clear A40
  obtain rfl := Option.some.inj H
  go_enter Try.func75, Try.ntmps75
  go_wp2_with (first | ((with_reducible refine gate_callee (f := 99) rfl ?_); refine goesL_ (some 4) rfl rfl Try.func99 (by kernel_rfl) rfl #[.int .i64 a0] rfl (by (try simp only [List.map_toArray, List.map_cons, List.map_nil]); first | done | rfl | (simp only [List.length_drop, List.length_take]; rfl)) ?_; (with_reducible refine (cartoucheref3_Wire.calls k a0 t233 _ A2.out).mono ?_); rintro e w' ⟨rfl, ⟨nd, rfl⟩⟩; refine ⟨_, rfl, ?_⟩) | (go_at_call 99; (with_reducible refine (cartoucheref3_Wire.calls k a0 t234 _ A4.out).mono ?_); rintro e w' ⟨rfl, ⟨nd, rfl⟩⟩))
  go_ret
  exact ⟨by first | rfl | (simp; done) | (simp [*]; done), by repeat (first | exact Drawn0.refl _ | apply Drawn0.step)⟩
 ·rw [if_neg c3] at H
  have c3b0 : decide (0 ≤ t233) = false := decide_eq_false c3
  clear c3
  obtain rfl := Option.some.inj H
  go_enter Try.func75, Try.ntmps75
  go_wp2_with (first | ((with_reducible refine gate_callee (f := 99) rfl ?_); refine goesL_ (some 4) rfl rfl Try.func99 (by kernel_rfl) rfl #[.int .i64 a0] rfl (by (try simp only [List.map_toArray, List.map_cons, List.map_nil]); first | done | rfl | (simp only [List.length_drop, List.length_take]; rfl)) ?_; (with_reducible refine (cartoucheref3_Wire.calls k a0 t233 _ A2.out).mono ?_); rintro e w' ⟨rfl, ⟨nd, rfl⟩⟩; refine ⟨_, rfl, ?_⟩))
  go_ret
  exact ⟨by first | rfl | (simp; done) | (simp [*]; done), by repeat (first | exact Drawn0.refl _ | apply Drawn0.step)⟩
end Go.Proofs.Ytedghbjmhcgilaa.POpt
end
section
namespace Go.Proofs.Ytedghbjmhcgilaa.POpt
open Go.RowKit Go.Proofs.YtedghbjmhcgilaaW.PrintWords Go.Proofs.YtedghbjmhcgilaaW.PrintLast Go.Proofs.YtedghbjmhcgilaaW.PrintMore
attribute [local go_sem] max2_int min2_int max_two min_two max_three min_three max_four min_four
set_option linter.unusedVariables false
set_option linter.unusedSimpArgs false
def cartoucheref3_IsKey.f (a0 : Int) : Option (Bool) := if a0 ≥ 1 then (if a0 ≤ 11 then (some true) else (some (a0 == 14))) else (some (a0 == 14))
set_option maxHeartbeats 8000000 in
set_option maxRecDepth 100000 in
theorem cartoucheref3_IsKey.calls (a0 : Int) (r : Bool) (w : World) (h : cartoucheref3_IsKey.f a0 = some r) :
  Calls Try.prog 76 #[.int .i64 a0] w fun e w' => e = .returned (.bool r) ∧ Drawn0 w w' := by
 have H : (if a0 ≥ 1 then (if a0 ≤ 11 then (some true) else (some (a0 == 14))) else (some (a0 == 14))) = some r := h
 clear h
 by_cases c2 : a0 ≥ 1
 ·rw [if_pos c2] at H
  have c2b0 : decide (1 ≤ a0) = true := decide_eq_true c2
  clear c2
  by_cases c3 : a0 ≤ 11
  ·rw [if_pos c3] at H
   have c3b0 : decide (a0 ≤ 11) = true := decide_eq_true c3
   clear c3
   obtain rfl := Option.some.inj H
   go_enter Try.func76, Try.ntmps76
   go_wp2
   go_ret
   exact ⟨by first | rfl | (simp; done) | (simp [*]; done), by repeat (first | exact Drawn0.refl _ | apply Drawn0.step)⟩
  ·rw [if_neg c3] at H
   have c3b0 : decide (a0 ≤ 11) = false := decide_eq_false c3
   clear c3
   obtain rfl := Option.some.inj H
   go_enter Try.func76, Try.ntmps76
   go_wp2
   go_ret
   exact ⟨by first | rfl | (simp; done) | (simp [*]; done), by repeat (first | exact Drawn0.refl _ | apply Drawn0.step)⟩
 ·rw [if_neg c2] at H
  have c2b0 : decide (1 ≤ a0) = false := decide_eq_false c2
  clear c2
  obtain rfl := Option.some.inj H
  go_enter Try.func76, Try.ntmps76
  go_wp2
  go_ret
  exact ⟨by first | rfl | (simp; done) | (simp [*]; done), by repeat (first | exact Drawn0.refl _ | apply Drawn0.step)⟩
end Go.Proofs.Ytedghbjmhcgilaa.POpt
end
section
namespace Go.Proofs.Ytedghbjmhcgilaa.POpt
open Go.RowKit Go.Proofs.YtedghbjmhcgilaaW.PrintWords Go.Proofs.YtedghbjmhcgilaaW.PrintLast Go.Proofs.YtedghbjmhcgilaaW.PrintMore
attribute [local go_sem] max2_int min2_int max_two min_two max_three min_three max_four min_four
set_option linter.unusedVariables false
set_option linter.unusedSimpArgs false
def cartoucheref13_isKind.f (a0 : Int) : Option (Bool) := if a0 ≥ 1 then (some (decide (a0 ≤ 17))) else (some false)
set_option maxHeartbeats 8000000 in
set_option maxRecDepth 100000 in
theorem cartoucheref13_isKind.calls (a0 : Int) (r : Bool) (w : World) (h : cartoucheref13_isKind.f a0 = some r) :
  Calls Try.prog 77 #[.int .i64 a0] w fun e w' => e = .returned (.bool r) ∧ Drawn0 w w' := by
 have H : (if a0 ≥ 1 then (some (decide (a0 ≤ 17))) else (some false)) = some r := h
 clear h
 by_cases c2 : a0 ≥ 1
 ·rw [if_pos c2] at H
  have c2b0 : decide (1 ≤ a0) = true := decide_eq_true c2
  clear c2
  obtain rfl := Option.some.inj H
  go_enter Try.func77, Try.ntmps77
  go_wp2
  go_ret
  exact ⟨by first | rfl | (simp; done) | (simp [*]; done), by repeat (first | exact Drawn0.refl _ | apply Drawn0.step)⟩
 ·rw [if_neg c2] at H
  have c2b0 : decide (1 ≤ a0) = false := decide_eq_false c2
  clear c2
  obtain rfl := Option.some.inj H
  go_enter Try.func77, Try.ntmps77
  go_wp2
  go_ret
  exact ⟨by first | rfl | (simp; done) | (simp [*]; done), by repeat (first | exact Drawn0.refl _ | apply Drawn0.step)⟩
end Go.Proofs.Ytedghbjmhcgilaa.POpt
end
section
namespace Go.Proofs.Ytedghbjmhcgilaa.POpt
open Go.RowKit Go.Proofs.YtedghbjmhcgilaaW.PrintWords Go.Proofs.YtedghbjmhcgilaaW.PrintLast Go.Proofs.YtedghbjmhcgilaaW.PrintMore
attribute [local go_sem] max2_int min2_int max_two min_two max_three min_three max_four min_four
set_option linter.unusedVariables false
set_option linter.unusedSimpArgs false
def cartoucheref13_block.f (l0_0 : List (S30)) (a1 : Int) (a2 : Int) : Option (Bool) := if a1 = 16 then ((cartoucheref13_isEnum.f l0_0 a2).bind fun t236 => (some t236)) else (if a1 = 17 then ((cartoucheref13_isMessage.f l0_0 a2).bind fun t237 => (some t237)) else (some (a2 == 0)))
set_option maxHeartbeats 8000000 in
set_option maxRecDepth 100000 in
theorem cartoucheref13_block.calls (A0_0 : Option Addr) (c0_0 : Nat) (l0_0 : List (S30)) (a1 : Int) (a2 : Int) (r : Bool) (w : World) (hr0_0 : Kd.C k30 w A0_0 l0_0.length l0_0) (hc0_0 : l0_0.length ≤ c0_0) (h : cartoucheref13_block.f l0_0 a1 a2 = some r) :
  Calls Try.prog 78 #[.agg #[.slice A0_0 l0_0.length c0_0], .int .i64 a1, .int .i64 a2] w fun e w' => e = .returned (.bool r) ∧ Below w.heap.size w w' := by
 have hu24 := Try.underlying24
 have HR0_0 := Aside0.mk hr0_0
 have HC0_0 := Aside0.mk hc0_0
 clear hr0_0 hc0_0
 have HB := Aside0.mk (Below.refl w.heap.size w)
 have H : (if a1 = 16 then ((cartoucheref13_isEnum.f l0_0 a2).bind fun t236 => (some t236)) else (if a1 = 17 then ((cartoucheref13_isMessage.f l0_0 a2).bind fun t237 => (some t237)) else (some (a2 == 0)))) = some r := h
 clear h
 by_cases c4 : a1 = 16
 ·rw [if_pos c4] at H
  have c4b0 : (a1 == 16) = true := beq_iff_eq.mpr c4
  have c4b1 : (a1 != 16) = false := bne_eq_false_iff_eq.mpr c4
  clear c4
  replace H := Option.bind_eq_some_iff.mp H
  obtain ⟨t236, A50, H⟩ := H
  replace H : (some t236) = some r := H
  have A5 := Aside0.mk A50
  clear A50
  obtain rfl := Option.some.inj H
  go_enter Try.func78, Try.ntmps78
  go_wp2_with (first | ((with_reducible refine gate_dst (N := 3) rfl ?_); refine box_event ?hg (N := 3) ?hd (cs := #[.slice A0_0 l0_0.length c0_0]) (t := 24) ?hr ?_; (case hd => rfl); (case hg => rfl); (case hr => first | (go_simp; done) | (go_simp; rfl)); intro gb235 hg w6 hbox hb; have n0_ := Aside0.mk (below_step (by repeat (first | (with_reducible first | exact HB.out | apply below_alloc | apply pw_below_drewN | apply below_drew1) | exact HB.out)) hb); have n1_ := Aside0.mk (hbox); have n2_ := Aside0.mk ((by rw [hg]; exact (below_size (by repeat (first | (with_reducible first | exact HB.out | apply below_alloc | apply pw_below_drewN | apply below_drew1) | exact HB.out))) : w.heap.size ≤ gb235)); have n3_ := Aside0.mk ((by rw [hg]; exact (below_size (by repeat (first | (with_reducible first | exact HB.out | apply below_alloc | apply pw_below_drewN | apply below_drew1) | exact HB.out))) : w.heap.size ≤ gb235)); clear HB; have HB := n0_; have BK235 := n1_; have GW235 := n2_; have GE235 := n3_; clear n0_ n1_ n2_ n3_; clear hb hbox hg; have hcz7_0 : w6.cell? ⟨gb235, 0, none⟩ = some (.slice A0_0 l0_0.length c0_0) := (blk_cell BK235.out 0).trans rfl; have hfz7_0 := blk_frozen BK235.out 0) | ((with_reducible refine gate_callee (f := 73) rfl ?_); refine goesL_ (some 11) rfl rfl Try.func73 (by kernel_rfl) rfl #[.agg #[.slice A0_0 l0_0.length c0_0], .int .i64 a2] rfl (by (try simp only [List.map_toArray, List.map_cons, List.map_nil]); first | done | rfl | (simp only [List.length_drop, List.length_take]; rfl)) ?_; (with_reducible refine (cartoucheref13_isEnum.calls _ _ l0_0 a2 t236 _ ?side1 ?side2 A5.out).mono ?_); (case side1 => repeat (first | exact (Kd.C_below HR0_0.out HB.out) | (with_reducible refine Kd.C_alloc ?_ _) | (with_reducible refine Kd.C_drewN ?_ _) | (with_reducible refine Kd.C_drew ?_))); (case side2 => exact HC0_0.out); rintro e w8 ⟨rfl, hb⟩; refine ⟨_, rfl, ?_⟩; have n0_ := Aside0.mk (blk_below (g := gb235) (o := .cells #[.slice A0_0 l0_0.length c0_0] 24 (0, 0)) (by (with_reducible repeat (first | refine blk_drewN ?_ _ | refine blk_drew ?_ | refine blk_alloc ?_ _)); exact BK235.out) hb); have n1_ := Aside0.mk (below_step (by repeat (first | (with_reducible first | exact HB.out | apply below_alloc | apply pw_below_drewN | apply below_drew1 | refine below_set ?_ GE235.out) | exact HB.out)) hb); clear BK235; clear HB; have BK235 := n0_; have HB := n1_; clear n0_ n1_; (try clear hb); (try clear hb2); (try clear hk); (try clear hi)))
  go_ret
  exact ⟨by first | rfl | (simp [errW_none, errW_some] <;> rfl) | (simp [*, errW_none, errW_some] <;> rfl), by repeat (first | (with_reducible first | exact HB.out | apply below_alloc | apply pw_below_drewN | apply below_drew1 | refine below_set ?_ GE235.out) | exact HB.out)⟩
 ·rw [if_neg c4] at H
  have c4b0 : (a1 == 16) = false := beq_eq_false_iff_ne.mpr c4
  have c4b1 : (a1 != 16) = true := bne_iff_ne.mpr c4
  by_cases c9 : a1 = 17
  ·rw [if_pos c9] at H
   have c9b0 : (a1 == 17) = true := beq_iff_eq.mpr c9
   have c9b1 : (a1 != 17) = false := bne_eq_false_iff_eq.mpr c9
   clear c9
   replace H := Option.bind_eq_some_iff.mp H
   obtain ⟨t237, A100, H⟩ := H
   replace H : (some t237) = some r := H
   have A10 := Aside0.mk A100
   clear A100
   obtain rfl := Option.some.inj H
   go_enter Try.func78, Try.ntmps78
   go_wp2_with (first | ((with_reducible refine gate_dst (N := 3) rfl ?_); refine box_event ?hg (N := 3) ?hd (cs := #[.slice A0_0 l0_0.length c0_0]) (t := 24) ?hr ?_; (case hd => rfl); (case hg => rfl); (case hr => first | (go_simp; done) | (go_simp; rfl)); intro gb235 hg w11 hbox hb; have n0_ := Aside0.mk (below_step (by repeat (first | (with_reducible first | exact HB.out | apply below_alloc | apply pw_below_drewN | apply below_drew1) | exact HB.out)) hb); have n1_ := Aside0.mk (hbox); have n2_ := Aside0.mk ((by rw [hg]; exact (below_size (by repeat (first | (with_reducible first | exact HB.out | apply below_alloc | apply pw_below_drewN | apply below_drew1) | exact HB.out))) : w.heap.size ≤ gb235)); have n3_ := Aside0.mk ((by rw [hg]; exact (below_size (by repeat (first | (with_reducible first | exact HB.out | apply below_alloc | apply pw_below_drewN | apply below_drew1) | exact HB.out))) : w.heap.size ≤ gb235)); clear HB; have HB := n0_; have BK235 := n1_; have GW235 := n2_; have GE235 := n3_; clear n0_ n1_ n2_ n3_; clear hb hbox hg; have hcz12_0 : w11.cell? ⟨gb235, 0, none⟩ = some (.slice A0_0 l0_0.length c0_0) := (blk_cell BK235.out 0).trans rfl; have hfz12_0 := blk_frozen BK235.out 0) | ((with_reducible refine gate_callee (f := 30) rfl ?_); refine goesL_ (some 16) rfl rfl Try.func30 (by kernel_rfl) rfl #[.agg #[.slice A0_0 l0_0.length c0_0], .int .i64 a2] rfl (by (try simp only [List.map_toArray, List.map_cons, List.map_nil]); first | done | rfl | (simp only [List.length_drop, List.length_take]; rfl)) ?_; (with_reducible refine (cartoucheref13_isMessage.calls _ _ l0_0 a2 t237 _ ?side1 ?side2 A10.out).mono ?_); (case side1 => repeat (first | exact (Kd.C_below HR0_0.out HB.out) | (with_reducible refine Kd.C_alloc ?_ _) | (with_reducible refine Kd.C_drewN ?_ _) | (with_reducible refine Kd.C_drew ?_))); (case side2 => exact HC0_0.out); rintro e w13 ⟨rfl, hb⟩; refine ⟨_, rfl, ?_⟩; have n0_ := Aside0.mk (blk_below (g := gb235) (o := .cells #[.slice A0_0 l0_0.length c0_0] 24 (0, 0)) (by (with_reducible repeat (first | refine blk_drewN ?_ _ | refine blk_drew ?_ | refine blk_alloc ?_ _)); exact BK235.out) hb); have n1_ := Aside0.mk (below_step (by repeat (first | (with_reducible first | exact HB.out | apply below_alloc | apply pw_below_drewN | apply below_drew1 | refine below_set ?_ GE235.out) | exact HB.out)) hb); clear BK235; clear HB; have BK235 := n0_; have HB := n1_; clear n0_ n1_; (try clear hb); (try clear hb2); (try clear hk); (try clear hi)))
   go_ret
   exact ⟨by first | rfl | (simp [errW_none, errW_some] <;> rfl) | (simp [*, errW_none, errW_some] <;> rfl), by repeat (first | (with_reducible first | exact HB.out | apply below_alloc | apply pw_below_drewN | apply below_drew1 | refine below_set ?_ GE235.out) | exact HB.out)⟩
  ·rw [if_neg c9] at H
   have c9b0 : (a1 == 17) = false := beq_eq_false_iff_ne.mpr c9
   have c9b1 : (a1 != 17) = true := bne_iff_ne.mpr c9
   obtain rfl := Option.some.inj H
   go_enter Try.func78, Try.ntmps78
   go_wp2_with (first | ((with_reducible refine gate_dst (N := 3) rfl ?_); refine box_event ?hg (N := 3) ?hd (cs := #[.slice A0_0 l0_0.length c0_0]) (t := 24) ?hr ?_; (case hd => rfl); (case hg => rfl); (case hr => first | (go_simp; done) | (go_simp; rfl)); intro gb235 hg w14 hbox hb; have n0_ := Aside0.mk (below_step (by repeat (first | (with_reducible first | exact HB.out | apply below_alloc | apply pw_below_drewN | apply below_drew1) | exact HB.out)) hb); have n1_ := Aside0.mk (hbox); have n2_ := Aside0.mk ((by rw [hg]; exact (below_size (by repeat (first | (with_reducible first | exact HB.out | apply below_alloc | apply pw_below_drewN | apply below_drew1) | exact HB.out))) : w.heap.size ≤ gb235)); have n3_ := Aside0.mk ((by rw [hg]; exact (below_size (by repeat (first | (with_reducible first | exact HB.out | apply below_alloc | apply pw_below_drewN | apply below_drew1) | exact HB.out))) : w.heap.size ≤ gb235)); clear HB; have HB := n0_; have BK235 := n1_; have GW235 := n2_; have GE235 := n3_; clear n0_ n1_ n2_ n3_; clear hb hbox hg))
   go_ret
   exact ⟨by first | rfl | (simp [errW_none, errW_some] <;> rfl) | (simp [*, errW_none, errW_some] <;> rfl), by repeat (first | (with_reducible first | exact HB.out | apply below_alloc | apply pw_below_drewN | apply below_drew1 | refine below_set ?_ GE235.out) | exact HB.out)⟩
end Go.Proofs.Ytedghbjmhcgilaa.POpt
end
section
namespace Go.Proofs.Ytedghbjmhcgilaa.N
open Go.RowKit Go.Proofs.YtedghbjmhcgilaaW.PrintWords Go.Proofs.YtedghbjmhcgilaaW.PrintLast Go.Proofs.YtedghbjmhcgilaaW.PrintMore
open Go.Proofs.Ytedghbjmhcgilaa.POpt
set_option linter.unusedVariables false
set_option linter.unusedSimpArgs false
def ar (op : Int) : Int := if op = 2 ∨ op = 14 ∨ op = 15 ∨ op = 21 ∨ op = 25 then 2 else if op = 3 ∨ op = 4 ∨ op = 5 ∨ op = 6 ∨ op = 7 ∨ op = 8 ∨ op = 9 ∨ op = 17 ∨ op = 18 ∨ op = 19 then 1 else if op = 10 ∨ op = 11 ∨ op = 16 ∨ op = 20 then 3 else if op = 12 ∨ op = 22 then 4 else 0
theorem ar_f (op : Int) : cartoucheref13_Arity.f 4 op = some (ar op) := by
  have key : ∀ v : Int, op = v → cartoucheref13_Arity.f 4 v = some (ar v) → cartoucheref13_Arity.f 4 op = some (ar op) := fun v e h => by rw [e]; exact h
  by_cases e : op = 2; exact key 2 e rfl
  by_cases e : op = 14; exact key 14 e rfl
  by_cases e : op = 15; exact key 15 e rfl
  by_cases e : op = 21; exact key 21 e rfl
  by_cases e : op = 25; exact key 25 e rfl
  by_cases e : op = 3; exact key 3 e rfl
  by_cases e : op = 4; exact key 4 e rfl
  by_cases e : op = 5; exact key 5 e rfl
  by_cases e : op = 6; exact key 6 e rfl
  by_cases e : op = 7; exact key 7 e rfl
  by_cases e : op = 8; exact key 8 e rfl
  by_cases e : op = 9; exact key 9 e rfl
  by_cases e : op = 17; exact key 17 e rfl
  by_cases e : op = 18; exact key 18 e rfl
  by_cases e : op = 19; exact key 19 e rfl
  by_cases e : op = 10; exact key 10 e rfl
  by_cases e : op = 11; exact key 11 e rfl
  by_cases e : op = 16; exact key 16 e rfl
  by_cases e : op = 20; exact key 20 e rfl
  by_cases e : op = 12; exact key 12 e rfl
  by_cases e : op = 22; exact key 22 e rfl
  unfold ar cartoucheref13_Arity.f
  simp only [*, false_or, if_false, or_self]
  simp only [cartoucheref13_Arity.j0, cartoucheref13_Arity.j1, cartoucheref13_Arity.j2, *, if_false, beq_iff_eq]
theorem arity_calls (op n : Int) (hn : ar op = n) (w : World) : Calls Try.prog 71 #[.int .i64 op] w fun e w' => e = .returned (.int .i64 n) ∧ Drawn0 w w' := by
  subst hn
  exact cartoucheref13_Arity.calls 4 op (ar op) w (ar_f op)
def isFieldB (a : Int) : Bool := decide (a ≥ 1) && decide (a ≤ 536870911)
theorem isFieldB_f (a : Int) : cartoucheref13_isField.f a = some (isFieldB a) := by
  unfold cartoucheref13_isField.f isFieldB; by_cases h : a ≥ 1 <;> simp [h]
def isScalarB (a : Int) : Bool := decide (a ≥ 1) && decide (a ≤ 16)
theorem isScalarB_f (a : Int) : cartoucheref13_isScalar.f a = some (isScalarB a) := by
  unfold cartoucheref13_isScalar.f isScalarB; by_cases h : a ≥ 1 <;> simp [h]
def isKindB (a : Int) : Bool := decide (a ≥ 1) && decide (a ≤ 17)
theorem isKindB_f (a : Int) : cartoucheref13_isKind.f a = some (isKindB a) := by
  unfold cartoucheref13_isKind.f isKindB; by_cases h : a ≥ 1 <;> simp [h]
def isKeyB (a : Int) : Bool := (cartoucheref3_IsKey.f a).getD false
theorem isKeyB_f (a : Int) : cartoucheref3_IsKey.f a = some (isKeyB a) := by
  unfold isKeyB cartoucheref3_IsKey.f; repeat' split
  all_goals rfl
def isTagB (a : Int) : Bool := (cartoucheref13_isTag.f a).getD false
theorem isTagB_f (a : Int) : cartoucheref13_isTag.f a = some (isTagB a) := by
  unfold isTagB cartoucheref13_isTag.f
  rw [isFieldB_f]
  simp only [Option.bind_some]
  repeat' split
  all_goals rfl
def isEnumB (bs : List S30) (a : Int) : Bool := (cartoucheref13_isEnum.f bs a).getD false
theorem isEnumB_f (bs : List S30) (a : Int) : cartoucheref13_isEnum.f bs a = some (isEnumB bs a) := by
  unfold isEnumB cartoucheref13_isEnum.f
  by_cases h0 : a ≥ 0
  · rw [if_pos h0]; by_cases h1 : a < (bs.length : Int)
    · rw [if_pos h1, if_pos (by omega)]; split <;> rfl
    · rw [if_neg h1]; rfl
  · rw [if_neg h0]; rfl
def isMessageB (bs : List S30) (a : Int) : Bool := (cartoucheref13_isMessage.f bs a).getD false
theorem isMessageB_f (bs : List S30) (a : Int) : cartoucheref13_isMessage.f bs a = some (isMessageB bs a) := by
  unfold isMessageB cartoucheref13_isMessage.f
  by_cases h0 : a ≥ 0
  · rw [if_pos h0]; by_cases h1 : a < (bs.length : Int)
    · rw [if_pos h1, if_pos (by omega)]; split <;> rfl
    · rw [if_neg h1]; rfl
  · rw [if_neg h0]; rfl
def blockB (bs : List S30) (k b : Int) : Bool := (cartoucheref13_block.f bs k b).getD false
theorem blockB_f (bs : List S30) (k b : Int) : cartoucheref13_block.f bs k b = some (blockB bs k b) := by
  unfold blockB cartoucheref13_block.f
  rw [isEnumB_f, isMessageB_f]
  repeat' split
  all_goals rfl
theorem wire_some (a : Int) : ∃ r, cartoucheref3_Wire.f 9 a = some r := by
  have j2 : ∀ x b, ∃ r, cartoucheref3_Wire.j2 7 x b = some r := fun x b => by
    show ∃ r, cartoucheref3_Wire.j2 (6 + 1) x b = some r
    rw [cartoucheref3_Wire.j2]; repeat' split
    all_goals exact ⟨_, rfl⟩
  have j1 : ∀ x b, ∃ r, cartoucheref3_Wire.j1 8 x b = some r := fun x b => by
    show ∃ r, cartoucheref3_Wire.j1 (7 + 1) x b = some r
    rw [cartoucheref3_Wire.j1]; repeat' split
    all_goals first | exact ⟨_, rfl⟩ | exact j2 _ _
  have j0 : ∀ x b, ∃ r, cartoucheref3_Wire.j0 9 x b = some r := fun x b => by
    show ∃ r, cartoucheref3_Wire.j0 (8 + 1) x b = some r
    rw [cartoucheref3_Wire.j0]; repeat' split
    all_goals first | exact ⟨_, rfl⟩ | exact j1 _ _
  unfold cartoucheref3_Wire.f
  repeat' split
  all_goals exact j0 _ _
def numericB (a : Int) : Bool := (cartoucheref3_Numeric.f 9 a).getD false
theorem numericB_f (a : Int) : cartoucheref3_Numeric.f 9 a = some (numericB a) := by
  unfold numericB cartoucheref3_Numeric.f
  obtain ⟨r, hr⟩ := wire_some a
  rw [hr]
  simp only [Option.bind_some]
  split <;> rfl
theorem isField_calls (a : Int) (w : World) (r : Bool) (h : isFieldB a = r) : Calls Try.prog 74 #[.int .i64 a] w fun e w' => e = .returned (.bool r) ∧ Drawn0 w w' := cartoucheref13_isField.calls a r w (by rw [isFieldB_f, h])
theorem isTag_calls (a : Int) (w : World) (r : Bool) (h : isTagB a = r) : Calls Try.prog 53 #[.int .i64 a] w fun e w' => e = .returned (.bool r) ∧ Drawn0 w w' := cartoucheref13_isTag.calls a r w (by rw [isTagB_f, h])
theorem isScalar_calls (a : Int) (w : World) (r : Bool) (h : isScalarB a = r) : Calls Try.prog 72 #[.int .i64 a] w fun e w' => e = .returned (.bool r) ∧ Drawn0 w w' := cartoucheref13_isScalar.calls a r w (by rw [isScalarB_f, h])
theorem isKind_calls (a : Int) (w : World) (r : Bool) (h : isKindB a = r) : Calls Try.prog 77 #[.int .i64 a] w fun e w' => e = .returned (.bool r) ∧ Drawn0 w w' := cartoucheref13_isKind.calls a r w (by rw [isKindB_f, h])
theorem isKey_calls (a : Int) (w : World) (r : Bool) (h : isKeyB a = r) : Calls Try.prog 76 #[.int .i64 a] w fun e w' => e = .returned (.bool r) ∧ Drawn0 w w' := cartoucheref3_IsKey.calls a r w (by rw [isKeyB_f, h])
theorem numeric_calls (a : Int) (w : World) (r : Bool) (h : numericB a = r) : Calls Try.prog 75 #[.int .i64 a] w fun e w' => e = .returned (.bool r) ∧ Drawn0 w w' := cartoucheref3_Numeric.calls 9 a r w (by rw [numericB_f, h])
theorem isEnum_calls (bs : List S30) (a : Int) (A : Option Addr) (c0 : Nat) (w : World) (hr : Kd.C k30 w A bs.length bs) (hc : bs.length ≤ c0) (r : Bool) (h : isEnumB bs a = r) : Calls Try.prog 73 #[.agg #[.slice A bs.length c0], .int .i64 a] w fun e w' => e = .returned (.bool r) ∧ Below w.heap.size w w' := cartoucheref13_isEnum.calls A c0 bs a r w hr hc (by rw [isEnumB_f, h])
theorem isMessage_calls (bs : List S30) (a : Int) (A : Option Addr) (c0 : Nat) (w : World) (hr : Kd.C k30 w A bs.length bs) (hc : bs.length ≤ c0) (r : Bool) (h : isMessageB bs a = r) : Calls Try.prog 30 #[.agg #[.slice A bs.length c0], .int .i64 a] w fun e w' => e = .returned (.bool r) ∧ Below w.heap.size w w' := cartoucheref13_isMessage.calls A c0 bs a r w hr hc (by rw [isMessageB_f, h])
theorem block_calls (bs : List S30) (k a : Int) (A : Option Addr) (c0 : Nat) (w : World) (hr : Kd.C k30 w A bs.length bs) (hc : bs.length ≤ c0) (r : Bool) (h : blockB bs k a = r) : Calls Try.prog 78 #[.agg #[.slice A bs.length c0], .int .i64 k, .int .i64 a] w fun e w' => e = .returned (.bool r) ∧ Below w.heap.size w w' := cartoucheref13_block.calls A c0 bs k a r w hr hc (by rw [blockB_f, h])
end Go.Proofs.Ytedghbjmhcgilaa.N
end
section
namespace Go.Proofs.Ytedghbjmhcgilaa.N
open Go.RowKit Go.Proofs.YtedghbjmhcgilaaW.PrintWords Go.Proofs.YtedghbjmhcgilaaW.PrintLast Go.Proofs.YtedghbjmhcgilaaW.PrintMore
open Go.Proofs.Ytedghbjmhcgilaa.POpt
set_option linter.unusedVariables false
set_option linter.unusedSimpArgs false
set_option maxRecDepth 100000 in
set_option maxHeartbeats 2000000 in
theorem num2 (bs : List S30) (A : Option Addr) (c0 : Nat) (a b : Int) (w : World) (hr : Kd.C k30 w A bs.length bs) (hc0 : bs.length ≤ c0) :
    Calls Try.prog 52 #[.agg #[.slice A bs.length c0], .agg #[.int .i64 2, .int .i64 a, .int .i64 b, .int .i64 0, .int .i64 0]] w fun e w' => e = .returned (.bool (isTagB a)) ∧ Below w.heap.size w w' := by
  have HR := Lib.hid hr
  have HA := Lib.hid (((Below.refl w.heap.size w).alloc (Nat.le_refl _) (.cells #[.slice A bs.length c0] 24)).alloc (by simp) (.cells #[.int .i64 2, .int .i64 a, .int .i64 b, .int .i64 0, .int .i64 0] 35))
  clear hr
  go_enter Try.func52, Try.ntmps52
  go_wp2_with (first | (go_at_call 71; refine (arity_calls _ 2 rfl _).mono ?_; rintro e w1 ⟨rfl, ⟨⟨q, rfl⟩⟩⟩) | (go_at_call 53; refine (isTag_calls a _ _ rfl).mono ?_; rintro e w1 ⟨rfl, ⟨⟨q, rfl⟩⟩⟩))
  go_ret
  exact ⟨by first | rfl | (simp; done) | (simp; omega), (by repeat (first | exact HA.out | refine pw_below_drewN ?_ _))⟩
set_option maxRecDepth 100000 in
set_option maxHeartbeats 2000000 in
theorem num5 (bs : List S30) (A : Option Addr) (c0 : Nat) (a : Int) (w : World) (hr : Kd.C k30 w A bs.length bs) (hc0 : bs.length ≤ c0) :
    Calls Try.prog 52 #[.agg #[.slice A bs.length c0], .agg #[.int .i64 5, .int .i64 a, .int .i64 0, .int .i64 0, .int .i64 0]] w fun e w' => e = .returned (.bool (isScalarB a)) ∧ Below w.heap.size w w' := by
  have HR := Lib.hid hr
  have HA := Lib.hid (((Below.refl w.heap.size w).alloc (Nat.le_refl _) (.cells #[.slice A bs.length c0] 24)).alloc (by simp) (.cells #[.int .i64 5, .int .i64 a, .int .i64 0, .int .i64 0, .int .i64 0] 35))
  clear hr
  go_enter Try.func52, Try.ntmps52
  go_wp2_with (first | (go_at_call 71; refine (arity_calls _ 1 rfl _).mono ?_; rintro e w1 ⟨rfl, ⟨⟨q, rfl⟩⟩⟩) | (go_at_call 72; refine (isScalar_calls a _ _ rfl).mono ?_; rintro e w1 ⟨rfl, ⟨⟨q, rfl⟩⟩⟩))
  go_ret
  exact ⟨by first | rfl | (simp; done) | (simp; omega), (by repeat (first | exact HA.out | refine pw_below_drewN ?_ _))⟩
set_option maxRecDepth 100000 in
set_option maxHeartbeats 2000000 in
theorem num18 (bs : List S30) (A : Option Addr) (c0 : Nat) (a : Int) (w : World) (hr : Kd.C k30 w A bs.length bs) (hc0 : bs.length ≤ c0) :
    Calls Try.prog 52 #[.agg #[.slice A bs.length c0], .agg #[.int .i64 18, .int .i64 a, .int .i64 0, .int .i64 0, .int .i64 0]] w fun e w' => e = .returned (.bool (isScalarB a)) ∧ Below w.heap.size w w' := by
  have HR := Lib.hid hr
  have HA := Lib.hid (((Below.refl w.heap.size w).alloc (Nat.le_refl _) (.cells #[.slice A bs.length c0] 24)).alloc (by simp) (.cells #[.int .i64 18, .int .i64 a, .int .i64 0, .int .i64 0, .int .i64 0] 35))
  clear hr
  go_enter Try.func52, Try.ntmps52
  go_wp2_with (first | (go_at_call 71; refine (arity_calls _ 1 rfl _).mono ?_; rintro e w1 ⟨rfl, ⟨⟨q, rfl⟩⟩⟩) | (go_at_call 72; refine (isScalar_calls a _ _ rfl).mono ?_; rintro e w1 ⟨rfl, ⟨⟨q, rfl⟩⟩⟩))
  go_ret
  exact ⟨by first | rfl | (simp; done) | (simp; omega), (by repeat (first | exact HA.out | refine pw_below_drewN ?_ _))⟩
set_option maxRecDepth 100000 in
set_option maxHeartbeats 2000000 in
theorem num6 (bs : List S30) (A : Option Addr) (c0 : Nat) (a : Int) (w : World) (hr : Kd.C k30 w A bs.length bs) (hc0 : bs.length ≤ c0) :
    Calls Try.prog 52 #[.agg #[.slice A bs.length c0], .agg #[.int .i64 6, .int .i64 a, .int .i64 0, .int .i64 0, .int .i64 0]] w fun e w' => e = .returned (.bool (isEnumB bs a)) ∧ Below w.heap.size w w' := by
  have HR := Lib.hid hr
  have HA := Lib.hid (((Below.refl w.heap.size w).alloc (Nat.le_refl _) (.cells #[.slice A bs.length c0] 24)).alloc (by simp) (.cells #[.int .i64 6, .int .i64 a, .int .i64 0, .int .i64 0, .int .i64 0] 35))
  clear hr
  go_enter Try.func52, Try.ntmps52
  go_wp2_with (first | (go_at_call 71; refine (arity_calls _ 1 rfl _).mono ?_; rintro e w1 ⟨rfl, ⟨⟨q, rfl⟩⟩⟩) | (go_at_call 73; refine (isEnum_calls bs a A c0 _ (Kd.C_below HR.out (by repeat (first | exact HA.out | refine pw_below_drewN ?_ _))) hc0 _ rfl).mono ?_; rintro e w1 ⟨rfl, hb⟩; have HB := Lib.hid hb; clear hb))
  go_ret
  exact ⟨by first | rfl | (simp; done) | (simp; omega), ((by repeat (first | exact HA.out | refine pw_below_drewN ?_ _)) : Below w.heap.size w _).trans (HB.out.mono (by simp; omega))⟩
set_option maxRecDepth 100000 in
set_option maxHeartbeats 2000000 in
theorem num7 (bs : List S30) (A : Option Addr) (c0 : Nat) (a : Int) (w : World) (hr : Kd.C k30 w A bs.length bs) (hc0 : bs.length ≤ c0) :
    Calls Try.prog 52 #[.agg #[.slice A bs.length c0], .agg #[.int .i64 7, .int .i64 a, .int .i64 0, .int .i64 0, .int .i64 0]] w fun e w' => e = .returned (.bool (isFieldB a)) ∧ Below w.heap.size w w' := by
  have HR := Lib.hid hr
  have HA := Lib.hid (((Below.refl w.heap.size w).alloc (Nat.le_refl _) (.cells #[.slice A bs.length c0] 24)).alloc (by simp) (.cells #[.int .i64 7, .int .i64 a, .int .i64 0, .int .i64 0, .int .i64 0] 35))
  clear hr
  go_enter Try.func52, Try.ntmps52
  go_wp2_with (first | (go_at_call 71; refine (arity_calls _ 1 rfl _).mono ?_; rintro e w1 ⟨rfl, ⟨⟨q, rfl⟩⟩⟩) | (go_at_call 74; refine (isField_calls a _ _ rfl).mono ?_; rintro e w1 ⟨rfl, ⟨⟨q, rfl⟩⟩⟩))
  go_ret
  exact ⟨by first | rfl | (simp; done) | (simp; omega), (by repeat (first | exact HA.out | refine pw_below_drewN ?_ _))⟩
set_option maxRecDepth 100000 in
set_option maxHeartbeats 2000000 in
theorem num8 (bs : List S30) (A : Option Addr) (c0 : Nat) (a : Int) (w : World) (hr : Kd.C k30 w A bs.length bs) (hc0 : bs.length ≤ c0) :
    Calls Try.prog 52 #[.agg #[.slice A bs.length c0], .agg #[.int .i64 8, .int .i64 a, .int .i64 0, .int .i64 0, .int .i64 0]] w fun e w' => e = .returned (.bool (isFieldB a)) ∧ Below w.heap.size w w' := by
  have HR := Lib.hid hr
  have HA := Lib.hid (((Below.refl w.heap.size w).alloc (Nat.le_refl _) (.cells #[.slice A bs.length c0] 24)).alloc (by simp) (.cells #[.int .i64 8, .int .i64 a, .int .i64 0, .int .i64 0, .int .i64 0] 35))
  clear hr
  go_enter Try.func52, Try.ntmps52
  go_wp2_with (first | (go_at_call 71; refine (arity_calls _ 1 rfl _).mono ?_; rintro e w1 ⟨rfl, ⟨⟨q, rfl⟩⟩⟩) | (go_at_call 74; refine (isField_calls a _ _ rfl).mono ?_; rintro e w1 ⟨rfl, ⟨⟨q, rfl⟩⟩⟩))
  go_ret
  exact ⟨by first | rfl | (simp; done) | (simp; omega), (by repeat (first | exact HA.out | refine pw_below_drewN ?_ _))⟩
set_option maxRecDepth 100000 in
set_option maxHeartbeats 2000000 in
theorem num9 (bs : List S30) (A : Option Addr) (c0 : Nat) (a : Int) (w : World) (hr : Kd.C k30 w A bs.length bs) (hc0 : bs.length ≤ c0) :
    Calls Try.prog 52 #[.agg #[.slice A bs.length c0], .agg #[.int .i64 9, .int .i64 a, .int .i64 0, .int .i64 0, .int .i64 0]] w fun e w' => e = .returned (.bool (isFieldB a)) ∧ Below w.heap.size w w' := by
  have HR := Lib.hid hr
  have HA := Lib.hid (((Below.refl w.heap.size w).alloc (Nat.le_refl _) (.cells #[.slice A bs.length c0] 24)).alloc (by simp) (.cells #[.int .i64 9, .int .i64 a, .int .i64 0, .int .i64 0, .int .i64 0] 35))
  clear hr
  go_enter Try.func52, Try.ntmps52
  go_wp2_with (first | (go_at_call 71; refine (arity_calls _ 1 rfl _).mono ?_; rintro e w1 ⟨rfl, ⟨⟨q, rfl⟩⟩⟩) | (go_at_call 74; refine (isField_calls a _ _ rfl).mono ?_; rintro e w1 ⟨rfl, ⟨⟨q, rfl⟩⟩⟩))
  go_ret
  exact ⟨by first | rfl | (simp; done) | (simp; omega), (by repeat (first | exact HA.out | refine pw_below_drewN ?_ _))⟩
set_option maxRecDepth 100000 in
set_option maxHeartbeats 2000000 in
theorem num10 (bs : List S30) (A : Option Addr) (c0 : Nat) (a b c : Int) (w : World) (hr : Kd.C k30 w A bs.length bs) (hc0 : bs.length ≤ c0) :
    Calls Try.prog 52 #[.agg #[.slice A bs.length c0], .agg #[.int .i64 10, .int .i64 a, .int .i64 b, .int .i64 c, .int .i64 0]] w fun e w' => e = .returned (.bool (isFieldB a && (isMessageB bs b && (decide (c ≥ 0) && (decide (c ≤ 2)))))) ∧ Below w.heap.size w w' := by
  have HR := Lib.hid hr
  have HA := Lib.hid (((Below.refl w.heap.size w).alloc (Nat.le_refl _) (.cells #[.slice A bs.length c0] 24)).alloc (by simp) (.cells #[.int .i64 10, .int .i64 a, .int .i64 b, .int .i64 c, .int .i64 0] 35))
  have hbx : ((w.alloc (.cells #[.slice A bs.length c0] 24)).alloc (.cells #[.int .i64 10, .int .i64 a, .int .i64 b, .int .i64 c, .int .i64 0] 35)).heap[w.heap.size + 1]? = some (.cells #[.int .i64 10, .int .i64 a, .int .i64 b, .int .i64 c, .int .i64 0] 35 (0, 0)) := by
    have := blk_new (w.alloc (.cells #[.slice A bs.length c0] 24)) (.cells #[.int .i64 10, .int .i64 a, .int .i64 b, .int .i64 c, .int .i64 0] 35); simpa using this
  have BX := Lib.hid hbx
  clear hbx
  clear hr
  cases h0 : isFieldB a
  case false =>
    go_enter Try.func52, Try.ntmps52
    go_wp2_with (first | (go_at_call 71; refine (arity_calls _ 3 rfl _).mono ?_; rintro e w1 ⟨rfl, ⟨⟨q, rfl⟩⟩⟩) | (go_at_call 74; refine (isField_calls a _ false h0).mono ?_; rintro e w1 ⟨rfl, ⟨⟨q, rfl⟩⟩⟩))
    go_ret
    exact ⟨by first | rfl | (simp; done) | (simp; omega), (by repeat (first | exact HA.out | refine pw_below_drewN ?_ _))⟩
  cases h1 : isMessageB bs b
  case false =>
    go_enter Try.func52, Try.ntmps52
    go_wp2_with (first | (go_at_call 71; refine (arity_calls _ 3 rfl _).mono ?_; rintro e w1 ⟨rfl, ⟨⟨q, rfl⟩⟩⟩) | (go_at_call 74; refine (isField_calls a _ true h0).mono ?_; rintro e w1 ⟨rfl, ⟨⟨q, rfl⟩⟩⟩) | (go_at_call 30; refine (isMessage_calls bs b A c0 _ (Kd.C_below HR.out (by repeat (first | exact HA.out | refine pw_below_drewN ?_ _))) hc0 false h1).mono ?_; rintro e w1 ⟨rfl, hb⟩; have HB := Lib.hid hb; clear hb))
    go_ret
    exact ⟨by first | rfl | (simp; done) | (simp; omega), ((by repeat (first | exact HA.out | refine pw_below_drewN ?_ _)) : Below w.heap.size w _).trans (HB.out.mono (by simp; omega))⟩
  by_cases h2 : 0 ≤ c
  case neg =>
    have g2 : ¬ c ≥ 0 := h2
    have k2 : c < 0 := by omega
    go_enter Try.func52, Try.ntmps52
    go_wp2_with (first | (go_at_call 71; refine (arity_calls _ 3 rfl _).mono ?_; rintro e w1 ⟨rfl, ⟨⟨q, rfl⟩⟩⟩) | (go_at_call 74; refine (isField_calls a _ true h0).mono ?_; rintro e w1 ⟨rfl, ⟨⟨q, rfl⟩⟩⟩) | (go_at_call 30; refine (isMessage_calls bs b A c0 _ (Kd.C_below HR.out (by repeat (first | exact HA.out | refine pw_below_drewN ?_ _))) hc0 true h1).mono ?_; rintro e w1 ⟨rfl, hb⟩; have q_ := (hb.block (w.heap.size + 1) (by simp)).trans BX.out; have x3 := blk_cell q_ 3; simp only [List.getElem?_toArray, List.getElem?_cons_zero, List.getElem?_cons_succ] at x3; clear q_; have HB := Lib.hid hb; clear hb))
    go_ret
    exact ⟨by first | rfl | (simp; done) | (simp; omega), ((by repeat (first | exact HA.out | refine pw_below_drewN ?_ _)) : Below w.heap.size w _).trans (HB.out.mono (by simp; omega))⟩
  have g2 : c ≥ 0 := h2
  go_enter Try.func52, Try.ntmps52
  go_wp2_with (first | (go_at_call 71; refine (arity_calls _ 3 rfl _).mono ?_; rintro e w1 ⟨rfl, ⟨⟨q, rfl⟩⟩⟩) | (go_at_call 74; refine (isField_calls a _ true h0).mono ?_; rintro e w1 ⟨rfl, ⟨⟨q, rfl⟩⟩⟩) | (go_at_call 30; refine (isMessage_calls bs b A c0 _ (Kd.C_below HR.out (by repeat (first | exact HA.out | refine pw_below_drewN ?_ _))) hc0 true h1).mono ?_; rintro e w1 ⟨rfl, hb⟩; have q_ := (hb.block (w.heap.size + 1) (by simp)).trans BX.out; have x3 := blk_cell q_ 3; simp only [List.getElem?_toArray, List.getElem?_cons_zero, List.getElem?_cons_succ] at x3; clear q_; have HB := Lib.hid hb; clear hb))
  go_ret
  exact ⟨by first | rfl | (simp; done) | (simp; omega), ((by repeat (first | exact HA.out | refine pw_below_drewN ?_ _)) : Below w.heap.size w _).trans (HB.out.mono (by simp; omega))⟩
set_option maxRecDepth 100000 in
set_option maxHeartbeats 2000000 in
theorem num12 (bs : List S30) (A : Option Addr) (c0 : Nat) (a b c d : Int) (w : World) (hr : Kd.C k30 w A bs.length bs) (hc0 : bs.length ≤ c0) :
    Calls Try.prog 52 #[.agg #[.slice A bs.length c0], .agg #[.int .i64 12, .int .i64 a, .int .i64 b, .int .i64 c, .int .i64 d]] w fun e w' => e = .returned (.bool (isFieldB a && (isKeyB b && (isKindB c && (blockB bs c d))))) ∧ Below w.heap.size w w' := by
  have HR := Lib.hid hr
  have HA := Lib.hid (((Below.refl w.heap.size w).alloc (Nat.le_refl _) (.cells #[.slice A bs.length c0] 24)).alloc (by simp) (.cells #[.int .i64 12, .int .i64 a, .int .i64 b, .int .i64 c, .int .i64 d] 35))
  clear hr
  cases h0 : isFieldB a
  case false =>
    go_enter Try.func52, Try.ntmps52
    go_wp2_with (first | (go_at_call 71; refine (arity_calls _ 4 rfl _).mono ?_; rintro e w1 ⟨rfl, ⟨⟨q, rfl⟩⟩⟩) | (go_at_call 74; refine (isField_calls a _ false h0).mono ?_; rintro e w1 ⟨rfl, ⟨⟨q, rfl⟩⟩⟩))
    go_ret
    exact ⟨by first | rfl | (simp; done) | (simp; omega), (by repeat (first | exact HA.out | refine pw_below_drewN ?_ _))⟩
  cases h1 : isKeyB b
  case false =>
    go_enter Try.func52, Try.ntmps52
    go_wp2_with (first | (go_at_call 71; refine (arity_calls _ 4 rfl _).mono ?_; rintro e w1 ⟨rfl, ⟨⟨q, rfl⟩⟩⟩) | (go_at_call 74; refine (isField_calls a _ true h0).mono ?_; rintro e w1 ⟨rfl, ⟨⟨q, rfl⟩⟩⟩) | (go_at_call 76; refine (isKey_calls b _ false h1).mono ?_; rintro e w1 ⟨rfl, ⟨⟨q, rfl⟩⟩⟩))
    go_ret
    exact ⟨by first | rfl | (simp; done) | (simp; omega), (by repeat (first | exact HA.out | refine pw_below_drewN ?_ _))⟩
  cases h2 : isKindB c
  case false =>
    go_enter Try.func52, Try.ntmps52
    go_wp2_with (first | (go_at_call 71; refine (arity_calls _ 4 rfl _).mono ?_; rintro e w1 ⟨rfl, ⟨⟨q, rfl⟩⟩⟩) | (go_at_call 74; refine (isField_calls a _ true h0).mono ?_; rintro e w1 ⟨rfl, ⟨⟨q, rfl⟩⟩⟩) | (go_at_call 76; refine (isKey_calls b _ true h1).mono ?_; rintro e w1 ⟨rfl, ⟨⟨q, rfl⟩⟩⟩) | (go_at_call 77; refine (isKind_calls c _ false h2).mono ?_; rintro e w1 ⟨rfl, ⟨⟨q, rfl⟩⟩⟩))
    go_ret
    exact ⟨by first | rfl | (simp; done) | (simp; omega), (by repeat (first | exact HA.out | refine pw_below_drewN ?_ _))⟩
  go_enter Try.func52, Try.ntmps52
  go_wp2_with (first | (go_at_call 71; refine (arity_calls _ 4 rfl _).mono ?_; rintro e w1 ⟨rfl, ⟨⟨q, rfl⟩⟩⟩) | (go_at_call 74; refine (isField_calls a _ true h0).mono ?_; rintro e w1 ⟨rfl, ⟨⟨q, rfl⟩⟩⟩) | (go_at_call 76; refine (isKey_calls b _ true h1).mono ?_; rintro e w1 ⟨rfl, ⟨⟨q, rfl⟩⟩⟩) | (go_at_call 77; refine (isKind_calls c _ true h2).mono ?_; rintro e w1 ⟨rfl, ⟨⟨q, rfl⟩⟩⟩) | (go_at_call 78; refine (block_calls bs c d A c0 _ (Kd.C_below HR.out (by repeat (first | exact HA.out | refine pw_below_drewN ?_ _))) hc0 _ rfl).mono ?_; rintro e w1 ⟨rfl, hb⟩; have HB := Lib.hid hb; clear hb))
  go_ret
  exact ⟨by first | rfl | (simp; done) | (simp; omega), ((by repeat (first | exact HA.out | refine pw_below_drewN ?_ _)) : Below w.heap.size w _).trans (HB.out.mono (by simp; omega))⟩
set_option maxRecDepth 100000 in
set_option maxHeartbeats 2000000 in
theorem num14 (bs : List S30) (A : Option Addr) (c0 : Nat) (a b : Int) (w : World) (hr : Kd.C k30 w A bs.length bs) (hc0 : bs.length ≤ c0) :
    Calls Try.prog 52 #[.agg #[.slice A bs.length c0], .agg #[.int .i64 14, .int .i64 a, .int .i64 b, .int .i64 0, .int .i64 0]] w fun e w' => e = .returned (.bool (isScalarB a && (isFieldB b))) ∧ Below w.heap.size w w' := by
  have HR := Lib.hid hr
  have HA := Lib.hid (((Below.refl w.heap.size w).alloc (Nat.le_refl _) (.cells #[.slice A bs.length c0] 24)).alloc (by simp) (.cells #[.int .i64 14, .int .i64 a, .int .i64 b, .int .i64 0, .int .i64 0] 35))
  clear hr
  cases h0 : isScalarB a
  case false =>
    go_enter Try.func52, Try.ntmps52
    go_wp2_with (first | (go_at_call 71; refine (arity_calls _ 2 rfl _).mono ?_; rintro e w1 ⟨rfl, ⟨⟨q, rfl⟩⟩⟩) | (go_at_call 72; refine (isScalar_calls a _ false h0).mono ?_; rintro e w1 ⟨rfl, ⟨⟨q, rfl⟩⟩⟩))
    go_ret
    exact ⟨by first | rfl | (simp; done) | (simp; omega), (by repeat (first | exact HA.out | refine pw_below_drewN ?_ _))⟩
  go_enter Try.func52, Try.ntmps52
  go_wp2_with (first | (go_at_call 71; refine (arity_calls _ 2 rfl _).mono ?_; rintro e w1 ⟨rfl, ⟨⟨q, rfl⟩⟩⟩) | (go_at_call 72; refine (isScalar_calls a _ true h0).mono ?_; rintro e w1 ⟨rfl, ⟨⟨q, rfl⟩⟩⟩) | (go_at_call 74; refine (isField_calls b _ _ rfl).mono ?_; rintro e w1 ⟨rfl, ⟨⟨q, rfl⟩⟩⟩))
  go_ret
  exact ⟨by first | rfl | (simp; done) | (simp; omega), (by repeat (first | exact HA.out | refine pw_below_drewN ?_ _))⟩
set_option maxRecDepth 100000 in
set_option maxHeartbeats 2000000 in
theorem num15 (bs : List S30) (A : Option Addr) (c0 : Nat) (a b : Int) (w : World) (hr : Kd.C k30 w A bs.length bs) (hc0 : bs.length ≤ c0) :
    Calls Try.prog 52 #[.agg #[.slice A bs.length c0], .agg #[.int .i64 15, .int .i64 a, .int .i64 b, .int .i64 0, .int .i64 0]] w fun e w' => e = .returned (.bool (isScalarB a && (isFieldB b))) ∧ Below w.heap.size w w' := by
  have HR := Lib.hid hr
  have HA := Lib.hid (((Below.refl w.heap.size w).alloc (Nat.le_refl _) (.cells #[.slice A bs.length c0] 24)).alloc (by simp) (.cells #[.int .i64 15, .int .i64 a, .int .i64 b, .int .i64 0, .int .i64 0] 35))
  clear hr
  cases h0 : isScalarB a
  case false =>
    go_enter Try.func52, Try.ntmps52
    go_wp2_with (first | (go_at_call 71; refine (arity_calls _ 2 rfl _).mono ?_; rintro e w1 ⟨rfl, ⟨⟨q, rfl⟩⟩⟩) | (go_at_call 72; refine (isScalar_calls a _ false h0).mono ?_; rintro e w1 ⟨rfl, ⟨⟨q, rfl⟩⟩⟩))
    go_ret
    exact ⟨by first | rfl | (simp; done) | (simp; omega), (by repeat (first | exact HA.out | refine pw_below_drewN ?_ _))⟩
  go_enter Try.func52, Try.ntmps52
  go_wp2_with (first | (go_at_call 71; refine (arity_calls _ 2 rfl _).mono ?_; rintro e w1 ⟨rfl, ⟨⟨q, rfl⟩⟩⟩) | (go_at_call 72; refine (isScalar_calls a _ true h0).mono ?_; rintro e w1 ⟨rfl, ⟨⟨q, rfl⟩⟩⟩) | (go_at_call 74; refine (isField_calls b _ _ rfl).mono ?_; rintro e w1 ⟨rfl, ⟨⟨q, rfl⟩⟩⟩))
  go_ret
  exact ⟨by first | rfl | (simp; done) | (simp; omega), (by repeat (first | exact HA.out | refine pw_below_drewN ?_ _))⟩
set_option maxRecDepth 100000 in
set_option maxHeartbeats 2000000 in
theorem num16 (bs : List S30) (A : Option Addr) (c0 : Nat) (a b c : Int) (w : World) (hr : Kd.C k30 w A bs.length bs) (hc0 : bs.length ≤ c0) :
    Calls Try.prog 52 #[.agg #[.slice A bs.length c0], .agg #[.int .i64 16, .int .i64 a, .int .i64 b, .int .i64 c, .int .i64 0]] w fun e w' => e = .returned (.bool (isFieldB a && (decide (c ≥ 0) && (decide (c ≤ 16))))) ∧ Below w.heap.size w w' := by
  have HR := Lib.hid hr
  have HA := Lib.hid (((Below.refl w.heap.size w).alloc (Nat.le_refl _) (.cells #[.slice A bs.length c0] 24)).alloc (by simp) (.cells #[.int .i64 16, .int .i64 a, .int .i64 b, .int .i64 c, .int .i64 0] 35))
  clear hr
  cases h0 : isFieldB a
  case false =>
    go_enter Try.func52, Try.ntmps52
    go_wp2_with (first | (go_at_call 71; refine (arity_calls _ 3 rfl _).mono ?_; rintro e w1 ⟨rfl, ⟨⟨q, rfl⟩⟩⟩) | (go_at_call 74; refine (isField_calls a _ false h0).mono ?_; rintro e w1 ⟨rfl, ⟨⟨q, rfl⟩⟩⟩))
    go_ret
    exact ⟨by first | rfl | (simp; done) | (simp; omega), (by repeat (first | exact HA.out | refine pw_below_drewN ?_ _))⟩
  by_cases h1 : 0 ≤ c
  case neg =>
    have g1 : ¬ c ≥ 0 := h1
    have k1 : c < 0 := by omega
    go_enter Try.func52, Try.ntmps52
    go_wp2_with (first | (go_at_call 71; refine (arity_calls _ 3 rfl _).mono ?_; rintro e w1 ⟨rfl, ⟨⟨q, rfl⟩⟩⟩) | (go_at_call 74; refine (isField_calls a _ true h0).mono ?_; rintro e w1 ⟨rfl, ⟨⟨q, rfl⟩⟩⟩))
    go_ret
    exact ⟨by first | rfl | (simp; done) | (simp; omega), (by repeat (first | exact HA.out | refine pw_below_drewN ?_ _))⟩
  have g1 : c ≥ 0 := h1
  go_enter Try.func52, Try.ntmps52
  go_wp2_with (first | (go_at_call 71; refine (arity_calls _ 3 rfl _).mono ?_; rintro e w1 ⟨rfl, ⟨⟨q, rfl⟩⟩⟩) | (go_at_call 74; refine (isField_calls a _ true h0).mono ?_; rintro e w1 ⟨rfl, ⟨⟨q, rfl⟩⟩⟩))
  go_ret
  exact ⟨by first | rfl | (simp; done) | (simp; omega), (by repeat (first | exact HA.out | refine pw_below_drewN ?_ _))⟩
end Go.Proofs.Ytedghbjmhcgilaa.N
end
section
namespace Go.Proofs.Ytedghbjmhcgilaa.N
open Go.RowKit Go.Proofs.YtedghbjmhcgilaaW.PrintWords Go.Proofs.YtedghbjmhcgilaaW.PrintLast Go.Proofs.YtedghbjmhcgilaaW.PrintMore
open Go.Proofs.Ytedghbjmhcgilaa.POpt
set_option linter.unusedVariables false
set_option linter.unusedSimpArgs false
set_option maxRecDepth 100000 in
set_option maxHeartbeats 2000000 in
theorem num17 (bs : List S30) (A : Option Addr) (c0 : Nat) (a : Int) (w : World) (hr : Kd.C k30 w A bs.length bs) (hc0 : bs.length ≤ c0) :
    Calls Try.prog 52 #[.agg #[.slice A bs.length c0], .agg #[.int .i64 17, .int .i64 a, .int .i64 0, .int .i64 0, .int .i64 0]] w fun e w' => e = .returned (.bool (isTagB a)) ∧ Below w.heap.size w w' := by
  have HR := Lib.hid hr
  have HA := Lib.hid (((Below.refl w.heap.size w).alloc (Nat.le_refl _) (.cells #[.slice A bs.length c0] 24)).alloc (by simp) (.cells #[.int .i64 17, .int .i64 a, .int .i64 0, .int .i64 0, .int .i64 0] 35))
  clear hr
  go_enter Try.func52, Try.ntmps52
  go_wp2_with (first | (go_at_call 71; refine (arity_calls _ 1 rfl _).mono ?_; rintro e w1 ⟨rfl, ⟨⟨q, rfl⟩⟩⟩) | (go_at_call 53; refine (isTag_calls a _ _ rfl).mono ?_; rintro e w1 ⟨rfl, ⟨⟨q, rfl⟩⟩⟩))
  go_ret
  exact ⟨by first | rfl | (simp; done) | (simp; omega), (by repeat (first | exact HA.out | refine pw_below_drewN ?_ _))⟩
set_option maxRecDepth 100000 in
set_option maxHeartbeats 2000000 in
theorem num19 (bs : List S30) (A : Option Addr) (c0 : Nat) (a : Int) (w : World) (hr : Kd.C k30 w A bs.length bs) (hc0 : bs.length ≤ c0) :
    Calls Try.prog 52 #[.agg #[.slice A bs.length c0], .agg #[.int .i64 19, .int .i64 a, .int .i64 0, .int .i64 0, .int .i64 0]] w fun e w' => e = .returned (.bool (isMessageB bs a)) ∧ Below w.heap.size w w' := by
  have HR := Lib.hid hr
  have HA := Lib.hid (((Below.refl w.heap.size w).alloc (Nat.le_refl _) (.cells #[.slice A bs.length c0] 24)).alloc (by simp) (.cells #[.int .i64 19, .int .i64 a, .int .i64 0, .int .i64 0, .int .i64 0] 35))
  clear hr
  go_enter Try.func52, Try.ntmps52
  go_wp2_with (first | (go_at_call 71; refine (arity_calls _ 1 rfl _).mono ?_; rintro e w1 ⟨rfl, ⟨⟨q, rfl⟩⟩⟩) | (go_at_call 30; refine (isMessage_calls bs a A c0 _ (Kd.C_below HR.out (by repeat (first | exact HA.out | refine pw_below_drewN ?_ _))) hc0 _ rfl).mono ?_; rintro e w1 ⟨rfl, hb⟩; have HB := Lib.hid hb; clear hb))
  go_ret
  exact ⟨by first | rfl | (simp; done) | (simp; omega), ((by repeat (first | exact HA.out | refine pw_below_drewN ?_ _)) : Below w.heap.size w _).trans (HB.out.mono (by simp; omega))⟩
set_option maxRecDepth 100000 in
set_option maxHeartbeats 2000000 in
theorem num20 (bs : List S30) (A : Option Addr) (c0 : Nat) (a b c : Int) (w : World) (hr : Kd.C k30 w A bs.length bs) (hc0 : bs.length ≤ c0) :
    Calls Try.prog 52 #[.agg #[.slice A bs.length c0], .agg #[.int .i64 20, .int .i64 a, .int .i64 b, .int .i64 c, .int .i64 0]] w fun e w' => e = .returned (.bool (isTagB a && (isKindB b && (blockB bs b c)))) ∧ Below w.heap.size w w' := by
  have HR := Lib.hid hr
  have HA := Lib.hid (((Below.refl w.heap.size w).alloc (Nat.le_refl _) (.cells #[.slice A bs.length c0] 24)).alloc (by simp) (.cells #[.int .i64 20, .int .i64 a, .int .i64 b, .int .i64 c, .int .i64 0] 35))
  clear hr
  cases h0 : isTagB a
  case false =>
    go_enter Try.func52, Try.ntmps52
    go_wp2_with (first | (go_at_call 71; refine (arity_calls _ 3 rfl _).mono ?_; rintro e w1 ⟨rfl, ⟨⟨q, rfl⟩⟩⟩) | (go_at_call 53; refine (isTag_calls a _ false h0).mono ?_; rintro e w1 ⟨rfl, ⟨⟨q, rfl⟩⟩⟩))
    go_ret
    exact ⟨by first | rfl | (simp; done) | (simp; omega), (by repeat (first | exact HA.out | refine pw_below_drewN ?_ _))⟩
  cases h1 : isKindB b
  case false =>
    go_enter Try.func52, Try.ntmps52
    go_wp2_with (first | (go_at_call 71; refine (arity_calls _ 3 rfl _).mono ?_; rintro e w1 ⟨rfl, ⟨⟨q, rfl⟩⟩⟩) | (go_at_call 53; refine (isTag_calls a _ true h0).mono ?_; rintro e w1 ⟨rfl, ⟨⟨q, rfl⟩⟩⟩) | (go_at_call 77; refine (isKind_calls b _ false h1).mono ?_; rintro e w1 ⟨rfl, ⟨⟨q, rfl⟩⟩⟩))
    go_ret
    exact ⟨by first | rfl | (simp; done) | (simp; omega), (by repeat (first | exact HA.out | refine pw_below_drewN ?_ _))⟩
  go_enter Try.func52, Try.ntmps52
  go_wp2_with (first | (go_at_call 71; refine (arity_calls _ 3 rfl _).mono ?_; rintro e w1 ⟨rfl, ⟨⟨q, rfl⟩⟩⟩) | (go_at_call 53; refine (isTag_calls a _ true h0).mono ?_; rintro e w1 ⟨rfl, ⟨⟨q, rfl⟩⟩⟩) | (go_at_call 77; refine (isKind_calls b _ true h1).mono ?_; rintro e w1 ⟨rfl, ⟨⟨q, rfl⟩⟩⟩) | (go_at_call 78; refine (block_calls bs b c A c0 _ (Kd.C_below HR.out (by repeat (first | exact HA.out | refine pw_below_drewN ?_ _))) hc0 _ rfl).mono ?_; rintro e w1 ⟨rfl, hb⟩; have HB := Lib.hid hb; clear hb))
  go_ret
  exact ⟨by first | rfl | (simp; done) | (simp; omega), ((by repeat (first | exact HA.out | refine pw_below_drewN ?_ _)) : Below w.heap.size w _).trans (HB.out.mono (by simp; omega))⟩
set_option maxRecDepth 100000 in
set_option maxHeartbeats 2000000 in
theorem num21 (bs : List S30) (A : Option Addr) (c0 : Nat) (a b : Int) (w : World) (hr : Kd.C k30 w A bs.length bs) (hc0 : bs.length ≤ c0) :
    Calls Try.prog 52 #[.agg #[.slice A bs.length c0], .agg #[.int .i64 21, .int .i64 a, .int .i64 b, .int .i64 0, .int .i64 0]] w fun e w' => e = .returned (.bool (isTagB a && (numericB b))) ∧ Below w.heap.size w w' := by
  have HR := Lib.hid hr
  have HA := Lib.hid (((Below.refl w.heap.size w).alloc (Nat.le_refl _) (.cells #[.slice A bs.length c0] 24)).alloc (by simp) (.cells #[.int .i64 21, .int .i64 a, .int .i64 b, .int .i64 0, .int .i64 0] 35))
  clear hr
  cases h0 : isTagB a
  case false =>
    go_enter Try.func52, Try.ntmps52
    go_wp2_with (first | (go_at_call 71; refine (arity_calls _ 2 rfl _).mono ?_; rintro e w1 ⟨rfl, ⟨⟨q, rfl⟩⟩⟩) | (go_at_call 53; refine (isTag_calls a _ false h0).mono ?_; rintro e w1 ⟨rfl, ⟨⟨q, rfl⟩⟩⟩))
    go_ret
    exact ⟨by first | rfl | (simp; done) | (simp; omega), (by repeat (first | exact HA.out | refine pw_below_drewN ?_ _))⟩
  go_enter Try.func52, Try.ntmps52
  go_wp2_with (first | (go_at_call 71; refine (arity_calls _ 2 rfl _).mono ?_; rintro e w1 ⟨rfl, ⟨⟨q, rfl⟩⟩⟩) | (go_at_call 53; refine (isTag_calls a _ true h0).mono ?_; rintro e w1 ⟨rfl, ⟨⟨q, rfl⟩⟩⟩) | (go_at_call 75; refine (numeric_calls b _ _ rfl).mono ?_; rintro e w1 ⟨rfl, ⟨⟨q, rfl⟩⟩⟩))
  go_ret
  exact ⟨by first | rfl | (simp; done) | (simp; omega), (by repeat (first | exact HA.out | refine pw_below_drewN ?_ _))⟩
set_option maxRecDepth 100000 in
set_option maxHeartbeats 2000000 in
theorem num22 (bs : List S30) (A : Option Addr) (c0 : Nat) (a b c d : Int) (w : World) (hr : Kd.C k30 w A bs.length bs) (hc0 : bs.length ≤ c0) :
    Calls Try.prog 52 #[.agg #[.slice A bs.length c0], .agg #[.int .i64 22, .int .i64 a, .int .i64 b, .int .i64 c, .int .i64 d]] w fun e w' => e = .returned (.bool (isTagB a && (isKeyB b && (isKindB c && (blockB bs c d))))) ∧ Below w.heap.size w w' := by
  have HR := Lib.hid hr
  have HA := Lib.hid (((Below.refl w.heap.size w).alloc (Nat.le_refl _) (.cells #[.slice A bs.length c0] 24)).alloc (by simp) (.cells #[.int .i64 22, .int .i64 a, .int .i64 b, .int .i64 c, .int .i64 d] 35))
  clear hr
  cases h0 : isTagB a
  case false =>
    go_enter Try.func52, Try.ntmps52
    go_wp2_with (first | (go_at_call 71; refine (arity_calls _ 4 rfl _).mono ?_; rintro e w1 ⟨rfl, ⟨⟨q, rfl⟩⟩⟩) | (go_at_call 53; refine (isTag_calls a _ false h0).mono ?_; rintro e w1 ⟨rfl, ⟨⟨q, rfl⟩⟩⟩))
    go_ret
    exact ⟨by first | rfl | (simp; done) | (simp; omega), (by repeat (first | exact HA.out | refine pw_below_drewN ?_ _))⟩
  cases h1 : isKeyB b
  case false =>
    go_enter Try.func52, Try.ntmps52
    go_wp2_with (first | (go_at_call 71; refine (arity_calls _ 4 rfl _).mono ?_; rintro e w1 ⟨rfl, ⟨⟨q, rfl⟩⟩⟩) | (go_at_call 53; refine (isTag_calls a _ true h0).mono ?_; rintro e w1 ⟨rfl, ⟨⟨q, rfl⟩⟩⟩) | (go_at_call 76; refine (isKey_calls b _ false h1).mono ?_; rintro e w1 ⟨rfl, ⟨⟨q, rfl⟩⟩⟩))
    go_ret
    exact ⟨by first | rfl | (simp; done) | (simp; omega), (by repeat (first | exact HA.out | refine pw_below_drewN ?_ _))⟩
  cases h2 : isKindB c
  case false =>
    go_enter Try.func52, Try.ntmps52
    go_wp2_with (first | (go_at_call 71; refine (arity_calls _ 4 rfl _).mono ?_; rintro e w1 ⟨rfl, ⟨⟨q, rfl⟩⟩⟩) | (go_at_call 53; refine (isTag_calls a _ true h0).mono ?_; rintro e w1 ⟨rfl, ⟨⟨q, rfl⟩⟩⟩) | (go_at_call 76; refine (isKey_calls b _ true h1).mono ?_; rintro e w1 ⟨rfl, ⟨⟨q, rfl⟩⟩⟩) | (go_at_call 77; refine (isKind_calls c _ false h2).mono ?_; rintro e w1 ⟨rfl, ⟨⟨q, rfl⟩⟩⟩))
    go_ret
    exact ⟨by first | rfl | (simp; done) | (simp; omega), (by repeat (first | exact HA.out | refine pw_below_drewN ?_ _))⟩
  go_enter Try.func52, Try.ntmps52
  go_wp2_with (first | (go_at_call 71; refine (arity_calls _ 4 rfl _).mono ?_; rintro e w1 ⟨rfl, ⟨⟨q, rfl⟩⟩⟩) | (go_at_call 53; refine (isTag_calls a _ true h0).mono ?_; rintro e w1 ⟨rfl, ⟨⟨q, rfl⟩⟩⟩) | (go_at_call 76; refine (isKey_calls b _ true h1).mono ?_; rintro e w1 ⟨rfl, ⟨⟨q, rfl⟩⟩⟩) | (go_at_call 77; refine (isKind_calls c _ true h2).mono ?_; rintro e w1 ⟨rfl, ⟨⟨q, rfl⟩⟩⟩) | (go_at_call 78; refine (block_calls bs c d A c0 _ (Kd.C_below HR.out (by repeat (first | exact HA.out | refine pw_below_drewN ?_ _))) hc0 _ rfl).mono ?_; rintro e w1 ⟨rfl, hb⟩; have HB := Lib.hid hb; clear hb))
  go_ret
  exact ⟨by first | rfl | (simp; done) | (simp; omega), ((by repeat (first | exact HA.out | refine pw_below_drewN ?_ _)) : Below w.heap.size w _).trans (HB.out.mono (by simp; omega))⟩
set_option maxRecDepth 100000 in
set_option maxHeartbeats 2000000 in
theorem num25 (bs : List S30) (A : Option Addr) (c0 : Nat) (a b : Int) (w : World) (hr : Kd.C k30 w A bs.length bs) (hc0 : bs.length ≤ c0) :
    Calls Try.prog 52 #[.agg #[.slice A bs.length c0], .agg #[.int .i64 25, .int .i64 a, .int .i64 b, .int .i64 0, .int .i64 0]] w fun e w' => e = .returned (.bool (isTagB a && (isScalarB b))) ∧ Below w.heap.size w w' := by
  have HR := Lib.hid hr
  have HA := Lib.hid (((Below.refl w.heap.size w).alloc (Nat.le_refl _) (.cells #[.slice A bs.length c0] 24)).alloc (by simp) (.cells #[.int .i64 25, .int .i64 a, .int .i64 b, .int .i64 0, .int .i64 0] 35))
  clear hr
  cases h0 : isTagB a
  case false =>
    go_enter Try.func52, Try.ntmps52
    go_wp2_with (first | (go_at_call 71; refine (arity_calls _ 2 rfl _).mono ?_; rintro e w1 ⟨rfl, ⟨⟨q, rfl⟩⟩⟩) | (go_at_call 53; refine (isTag_calls a _ false h0).mono ?_; rintro e w1 ⟨rfl, ⟨⟨q, rfl⟩⟩⟩))
    go_ret
    exact ⟨by first | rfl | (simp; done) | (simp; omega), (by repeat (first | exact HA.out | refine pw_below_drewN ?_ _))⟩
  go_enter Try.func52, Try.ntmps52
  go_wp2_with (first | (go_at_call 71; refine (arity_calls _ 2 rfl _).mono ?_; rintro e w1 ⟨rfl, ⟨⟨q, rfl⟩⟩⟩) | (go_at_call 53; refine (isTag_calls a _ true h0).mono ?_; rintro e w1 ⟨rfl, ⟨⟨q, rfl⟩⟩⟩) | (go_at_call 72; refine (isScalar_calls b _ _ rfl).mono ?_; rintro e w1 ⟨rfl, ⟨⟨q, rfl⟩⟩⟩))
  go_ret
  exact ⟨by first | rfl | (simp; done) | (simp; omega), (by repeat (first | exact HA.out | refine pw_below_drewN ?_ _))⟩
set_option maxRecDepth 100000 in
set_option maxHeartbeats 2000000 in
theorem num3 (bs : List S30) (A : Option Addr) (c0 : Nat) (a : Int) (w : World) (hr : Kd.C k30 w A bs.length bs) (hc0 : bs.length ≤ c0) :
    Calls Try.prog 52 #[.agg #[.slice A bs.length c0], .agg #[.int .i64 3, .int .i64 a, .int .i64 0, .int .i64 0, .int .i64 0]] w fun e w' => e = .returned (.bool (true)) ∧ Below w.heap.size w w' := by
  have HR := Lib.hid hr
  have HA := Lib.hid (((Below.refl w.heap.size w).alloc (Nat.le_refl _) (.cells #[.slice A bs.length c0] 24)).alloc (by simp) (.cells #[.int .i64 3, .int .i64 a, .int .i64 0, .int .i64 0, .int .i64 0] 35))
  clear hr
  go_enter Try.func52, Try.ntmps52
  go_wp2_with (first | (go_at_call 71; refine (arity_calls _ 1 rfl _).mono ?_; rintro e w1 ⟨rfl, ⟨⟨q, rfl⟩⟩⟩))
  go_ret
  exact ⟨by first | rfl | (simp; done) | (simp; omega), (by repeat (first | exact HA.out | refine pw_below_drewN ?_ _))⟩
set_option maxRecDepth 100000 in
set_option maxHeartbeats 2000000 in
theorem num4 (bs : List S30) (A : Option Addr) (c0 : Nat) (a : Int) (w : World) (hr : Kd.C k30 w A bs.length bs) (hc0 : bs.length ≤ c0) :
    Calls Try.prog 52 #[.agg #[.slice A bs.length c0], .agg #[.int .i64 4, .int .i64 a, .int .i64 0, .int .i64 0, .int .i64 0]] w fun e w' => e = .returned (.bool (true)) ∧ Below w.heap.size w w' := by
  have HR := Lib.hid hr
  have HA := Lib.hid (((Below.refl w.heap.size w).alloc (Nat.le_refl _) (.cells #[.slice A bs.length c0] 24)).alloc (by simp) (.cells #[.int .i64 4, .int .i64 a, .int .i64 0, .int .i64 0, .int .i64 0] 35))
  clear hr
  go_enter Try.func52, Try.ntmps52
  go_wp2_with (first | (go_at_call 71; refine (arity_calls _ 1 rfl _).mono ?_; rintro e w1 ⟨rfl, ⟨⟨q, rfl⟩⟩⟩))
  go_ret
  exact ⟨by first | rfl | (simp; done) | (simp; omega), (by repeat (first | exact HA.out | refine pw_below_drewN ?_ _))⟩
end Go.Proofs.Ytedghbjmhcgilaa.N
end
section
namespace Go.Proofs.Ytedghbjmhcgilaa.N
open Go.RowKit Go.Proofs.YtedghbjmhcgilaaW.PrintWords Go.Proofs.YtedghbjmhcgilaaW.PrintLast Go.Proofs.YtedghbjmhcgilaaW.PrintMore
open Go.Proofs.Ytedghbjmhcgilaa.POpt
set_option linter.unusedVariables false
set_option linter.unusedSimpArgs false
set_option maxRecDepth 100000 in
set_option maxHeartbeats 2000000 in
theorem num11e0 (bs : List S30) (A : Option Addr) (c0 : Nat) (a c : Int) (w : World) (hr : Kd.C k30 w A bs.length bs) (hc0 : bs.length ≤ c0) (h0 : isFieldB a = false) :
    Calls Try.prog 52 #[.agg #[.slice A bs.length c0], .agg #[.int .i64 11, .int .i64 a, .int .i64 16, .int .i64 c, .int .i64 0]] w fun e w' => e = .returned (.bool (false)) ∧ Below w.heap.size w w' := by
  have HR := Lib.hid hr
  have HA := Lib.hid (((Below.refl w.heap.size w).alloc (Nat.le_refl _) (.cells #[.slice A bs.length c0] 24)).alloc (by simp) (.cells #[.int .i64 11, .int .i64 a, .int .i64 16, .int .i64 c, .int .i64 0] 35))
  clear hr
  go_enter Try.func52, Try.ntmps52
  go_wp2_with (first | (go_at_call 71; refine (arity_calls _ 3 rfl _).mono ?_; rintro e w1 ⟨rfl, ⟨⟨q, rfl⟩⟩⟩) | (go_at_call 74; refine (isField_calls a _ false h0).mono ?_; rintro e w1 ⟨rfl, ⟨⟨q, rfl⟩⟩⟩))
  go_ret
  exact ⟨rfl, (by repeat (first | exact HA.out | refine pw_below_drewN ?_ _))⟩
set_option maxRecDepth 100000 in
set_option maxHeartbeats 2000000 in
theorem num11e1 (bs : List S30) (A : Option Addr) (c0 : Nat) (a c : Int) (w : World) (hr : Kd.C k30 w A bs.length bs) (hc0 : bs.length ≤ c0) (h0 : isFieldB a = true) :
    Calls Try.prog 52 #[.agg #[.slice A bs.length c0], .agg #[.int .i64 11, .int .i64 a, .int .i64 16, .int .i64 c, .int .i64 0]] w fun e w' => e = .returned (.bool (isEnumB bs (wrap64 (c - 1)))) ∧ Below w.heap.size w w' := by
  have HR := Lib.hid hr
  have HA := Lib.hid (((Below.refl w.heap.size w).alloc (Nat.le_refl _) (.cells #[.slice A bs.length c0] 24)).alloc (by simp) (.cells #[.int .i64 11, .int .i64 a, .int .i64 16, .int .i64 c, .int .i64 0] 35))
  clear hr
  go_enter Try.func52, Try.ntmps52
  go_wp2_with (first | (go_at_call 71; refine (arity_calls _ 3 rfl _).mono ?_; rintro e w1 ⟨rfl, ⟨⟨q, rfl⟩⟩⟩) | (go_at_call 74; refine (isField_calls a _ true h0).mono ?_; rintro e w1 ⟨rfl, ⟨⟨q, rfl⟩⟩⟩) | (go_at_call 73; refine (isEnum_calls bs _ A c0 _ (Kd.C_below HR.out (by repeat (first | exact HA.out | refine pw_below_drewN ?_ _))) hc0 _ rfl).mono ?_; rintro e w1 ⟨rfl, hb⟩; have HB := Lib.hid hb; clear hb))
  go_ret
  exact ⟨by first | rfl | (rw [i64_w]; done) | (simp [i64_w]; done), ((by repeat (first | exact HA.out | refine pw_below_drewN ?_ _)) : Below w.heap.size w _).trans (HB.out.mono (by simp; omega))⟩
set_option maxRecDepth 100000 in
set_option maxHeartbeats 2000000 in
theorem num11n0 (bs : List S30) (A : Option Addr) (c0 : Nat) (a b c : Int) (w : World) (hr : Kd.C k30 w A bs.length bs) (hc0 : bs.length ≤ c0) (hb : b ≠ 16) (h0 : isFieldB a = false) :
    Calls Try.prog 52 #[.agg #[.slice A bs.length c0], .agg #[.int .i64 11, .int .i64 a, .int .i64 b, .int .i64 c, .int .i64 0]] w fun e w' => e = .returned (.bool (false)) ∧ Below w.heap.size w w' := by
  have HR := Lib.hid hr
  have HA := Lib.hid (((Below.refl w.heap.size w).alloc (Nat.le_refl _) (.cells #[.slice A bs.length c0] 24)).alloc (by simp) (.cells #[.int .i64 11, .int .i64 a, .int .i64 b, .int .i64 c, .int .i64 0] 35))
  clear hr
  have hb16 : (b == 16) = false := beq_eq_false_iff_ne.mpr hb
  clear hb
  go_enter Try.func52, Try.ntmps52
  go_wp2_with (first | (go_at_call 71; refine (arity_calls _ 3 rfl _).mono ?_; rintro e w1 ⟨rfl, ⟨⟨q, rfl⟩⟩⟩) | (go_at_call 74; refine (isField_calls a _ false h0).mono ?_; rintro e w1 ⟨rfl, ⟨⟨q, rfl⟩⟩⟩))
  go_ret
  exact ⟨rfl, (by repeat (first | exact HA.out | refine pw_below_drewN ?_ _))⟩
set_option maxRecDepth 100000 in
set_option maxHeartbeats 2000000 in
theorem num11n1 (bs : List S30) (A : Option Addr) (c0 : Nat) (a b c : Int) (w : World) (hr : Kd.C k30 w A bs.length bs) (hc0 : bs.length ≤ c0) (hb : b ≠ 16) (h0 : isFieldB a = true) (h1 : numericB b = false) :
    Calls Try.prog 52 #[.agg #[.slice A bs.length c0], .agg #[.int .i64 11, .int .i64 a, .int .i64 b, .int .i64 c, .int .i64 0]] w fun e w' => e = .returned (.bool (false)) ∧ Below w.heap.size w w' := by
  have HR := Lib.hid hr
  have HA := Lib.hid (((Below.refl w.heap.size w).alloc (Nat.le_refl _) (.cells #[.slice A bs.length c0] 24)).alloc (by simp) (.cells #[.int .i64 11, .int .i64 a, .int .i64 b, .int .i64 c, .int .i64 0] 35))
  clear hr
  have hb16 : (b == 16) = false := beq_eq_false_iff_ne.mpr hb
  clear hb
  go_enter Try.func52, Try.ntmps52
  go_wp2_with (first | (go_at_call 71; refine (arity_calls _ 3 rfl _).mono ?_; rintro e w1 ⟨rfl, ⟨⟨q, rfl⟩⟩⟩) | (go_at_call 74; refine (isField_calls a _ true h0).mono ?_; rintro e w1 ⟨rfl, ⟨⟨q, rfl⟩⟩⟩) | (go_at_call 75; refine (numeric_calls b _ false h1).mono ?_; rintro e w1 ⟨rfl, ⟨⟨q, rfl⟩⟩⟩))
  go_ret
  exact ⟨rfl, (by repeat (first | exact HA.out | refine pw_below_drewN ?_ _))⟩
set_option maxRecDepth 100000 in
set_option maxHeartbeats 2000000 in
theorem num11n2 (bs : List S30) (A : Option Addr) (c0 : Nat) (a b c : Int) (w : World) (hr : Kd.C k30 w A bs.length bs) (hc0 : bs.length ≤ c0) (hb : b ≠ 16) (h0 : isFieldB a = true) (h1 : numericB b = true) :
    Calls Try.prog 52 #[.agg #[.slice A bs.length c0], .agg #[.int .i64 11, .int .i64 a, .int .i64 b, .int .i64 c, .int .i64 0]] w fun e w' => e = .returned (.bool ((c == 0))) ∧ Below w.heap.size w w' := by
  have HR := Lib.hid hr
  have HA := Lib.hid (((Below.refl w.heap.size w).alloc (Nat.le_refl _) (.cells #[.slice A bs.length c0] 24)).alloc (by simp) (.cells #[.int .i64 11, .int .i64 a, .int .i64 b, .int .i64 c, .int .i64 0] 35))
  clear hr
  have hb16 : (b == 16) = false := beq_eq_false_iff_ne.mpr hb
  clear hb
  go_enter Try.func52, Try.ntmps52
  go_wp2_with (first | (go_at_call 71; refine (arity_calls _ 3 rfl _).mono ?_; rintro e w1 ⟨rfl, ⟨⟨q, rfl⟩⟩⟩) | (go_at_call 74; refine (isField_calls a _ true h0).mono ?_; rintro e w1 ⟨rfl, ⟨⟨q, rfl⟩⟩⟩) | (go_at_call 75; refine (numeric_calls b _ true h1).mono ?_; rintro e w1 ⟨rfl, ⟨⟨q, rfl⟩⟩⟩))
  go_ret
  exact ⟨by first | rfl | (simp; done) | (simp; omega), (by repeat (first | exact HA.out | refine pw_below_drewN ?_ _))⟩
set_option maxRecDepth 100000 in
set_option maxHeartbeats 2000000 in
theorem numgd (bs : List S30) (A : Option Addr) (c0 : Nat) (op n a b c d : Int) (w : World) (hr : Kd.C k30 w A bs.length bs) (hc0 : bs.length ≤ c0) (hn : ar op = n) (hl : n < 4) (hv : d ≠ 0) :
    Calls Try.prog 52 #[.agg #[.slice A bs.length c0], .agg #[.int .i64 op, .int .i64 a, .int .i64 b, .int .i64 c, .int .i64 d]] w fun e w' => e = .returned (.bool (false)) ∧ Below w.heap.size w w' := by
  have HR := Lib.hid hr
  have HA := Lib.hid (((Below.refl w.heap.size w).alloc (Nat.le_refl _) (.cells #[.slice A bs.length c0] 24)).alloc (by simp) (.cells #[.int .i64 op, .int .i64 a, .int .i64 b, .int .i64 c, .int .i64 d] 35))
  clear hr
  have HAR := Lib.hid hn
  clear hn
  have hv1 : (d != 0) = true := bne_iff_ne.mpr hv
  clear hv
  go_enter Try.func52, Try.ntmps52
  go_wp2_with (first | (go_at_call 71; refine (arity_calls _ n HAR.out _).mono ?_; rintro e w1 ⟨rfl, ⟨⟨q, rfl⟩⟩⟩))
  go_ret
  exact ⟨by first | rfl | (simp; done) | (simp; omega), (by repeat (first | exact HA.out | refine pw_below_drewN ?_ _))⟩
set_option maxRecDepth 100000 in
set_option maxHeartbeats 2000000 in
theorem numgc (bs : List S30) (A : Option Addr) (c0 : Nat) (op n a b c : Int) (w : World) (hr : Kd.C k30 w A bs.length bs) (hc0 : bs.length ≤ c0) (hn : ar op = n) (hl : n < 3) (hv : c ≠ 0) :
    Calls Try.prog 52 #[.agg #[.slice A bs.length c0], .agg #[.int .i64 op, .int .i64 a, .int .i64 b, .int .i64 c, .int .i64 0]] w fun e w' => e = .returned (.bool (false)) ∧ Below w.heap.size w w' := by
  have HR := Lib.hid hr
  have HA := Lib.hid (((Below.refl w.heap.size w).alloc (Nat.le_refl _) (.cells #[.slice A bs.length c0] 24)).alloc (by simp) (.cells #[.int .i64 op, .int .i64 a, .int .i64 b, .int .i64 c, .int .i64 0] 35))
  clear hr
  have HAR := Lib.hid hn
  clear hn
  have hl4 : n < 4 := by omega
  have hv1 : (c != 0) = true := bne_iff_ne.mpr hv
  clear hv
  go_enter Try.func52, Try.ntmps52
  go_wp2_with (first | (go_at_call 71; refine (arity_calls _ n HAR.out _).mono ?_; rintro e w1 ⟨rfl, ⟨⟨q, rfl⟩⟩⟩))
  go_ret
  exact ⟨by first | rfl | (simp; done) | (simp; omega), (by repeat (first | exact HA.out | refine pw_below_drewN ?_ _))⟩
set_option maxRecDepth 100000 in
set_option maxHeartbeats 2000000 in
theorem numgb (bs : List S30) (A : Option Addr) (c0 : Nat) (op n a b : Int) (w : World) (hr : Kd.C k30 w A bs.length bs) (hc0 : bs.length ≤ c0) (hn : ar op = n) (hl : n < 2) (hv : b ≠ 0) :
    Calls Try.prog 52 #[.agg #[.slice A bs.length c0], .agg #[.int .i64 op, .int .i64 a, .int .i64 b, .int .i64 0, .int .i64 0]] w fun e w' => e = .returned (.bool (false)) ∧ Below w.heap.size w w' := by
  have HR := Lib.hid hr
  have HA := Lib.hid (((Below.refl w.heap.size w).alloc (Nat.le_refl _) (.cells #[.slice A bs.length c0] 24)).alloc (by simp) (.cells #[.int .i64 op, .int .i64 a, .int .i64 b, .int .i64 0, .int .i64 0] 35))
  clear hr
  have HAR := Lib.hid hn
  clear hn
  have hl3 : n < 3 := by omega
  have hl4 : n < 4 := by omega
  have hv1 : (b != 0) = true := bne_iff_ne.mpr hv
  clear hv
  go_enter Try.func52, Try.ntmps52
  go_wp2_with (first | (go_at_call 71; refine (arity_calls _ n HAR.out _).mono ?_; rintro e w1 ⟨rfl, ⟨⟨q, rfl⟩⟩⟩))
  go_ret
  exact ⟨by first | rfl | (simp; done) | (simp; omega), (by repeat (first | exact HA.out | refine pw_below_drewN ?_ _))⟩
set_option maxRecDepth 100000 in
set_option maxHeartbeats 2000000 in
theorem numga (bs : List S30) (A : Option Addr) (c0 : Nat) (op n a : Int) (w : World) (hr : Kd.C k30 w A bs.length bs) (hc0 : bs.length ≤ c0) (hn : ar op = n) (hl : n < 1) (hv : a ≠ 0) :
    Calls Try.prog 52 #[.agg #[.slice A bs.length c0], .agg #[.int .i64 op, .int .i64 a, .int .i64 0, .int .i64 0, .int .i64 0]] w fun e w' => e = .returned (.bool (false)) ∧ Below w.heap.size w w' := by
  have HR := Lib.hid hr
  have HA := Lib.hid (((Below.refl w.heap.size w).alloc (Nat.le_refl _) (.cells #[.slice A bs.length c0] 24)).alloc (by simp) (.cells #[.int .i64 op, .int .i64 a, .int .i64 0, .int .i64 0, .int .i64 0] 35))
  clear hr
  have HAR := Lib.hid hn
  clear hn
  have hl2 : n < 2 := by omega
  have hl3 : n < 3 := by omega
  have hl4 : n < 4 := by omega
  have hv1 : (a != 0) = true := bne_iff_ne.mpr hv
  clear hv
  go_enter Try.func52, Try.ntmps52
  go_wp2_with (first | (go_at_call 71; refine (arity_calls _ n HAR.out _).mono ?_; rintro e w1 ⟨rfl, ⟨⟨q, rfl⟩⟩⟩))
  go_ret
  exact ⟨by first | rfl | (simp; done) | (simp; omega), (by repeat (first | exact HA.out | refine pw_below_drewN ?_ _))⟩
set_option maxRecDepth 100000 in
set_option maxHeartbeats 2000000 in
theorem numd (bs : List S30) (A : Option Addr) (c0 : Nat) (op : Int) (w : World) (hr : Kd.C k30 w A bs.length bs) (hc0 : bs.length ≤ c0) (hn : ar op = 0) (e2 : op ≠ 2) (e5 : op ≠ 5) (e18 : op ≠ 18) (e6 : op ≠ 6) (e7 : op ≠ 7) (e8 : op ≠ 8) (e9 : op ≠ 9) (e10 : op ≠ 10) (e11 : op ≠ 11) (e12 : op ≠ 12) (e14 : op ≠ 14) (e15 : op ≠ 15) (e16 : op ≠ 16) (e17 : op ≠ 17) (e19 : op ≠ 19) (e20 : op ≠ 20) (e21 : op ≠ 21) (e22 : op ≠ 22) (e25 : op ≠ 25) :
    Calls Try.prog 52 #[.agg #[.slice A bs.length c0], .agg #[.int .i64 op, .int .i64 0, .int .i64 0, .int .i64 0, .int .i64 0]] w fun e w' => e = .returned (.bool (true)) ∧ Below w.heap.size w w' := by
  have HR := Lib.hid hr
  have HA := Lib.hid (((Below.refl w.heap.size w).alloc (Nat.le_refl _) (.cells #[.slice A bs.length c0] 24)).alloc (by simp) (.cells #[.int .i64 op, .int .i64 0, .int .i64 0, .int .i64 0, .int .i64 0] 35))
  clear hr
  have HAR := Lib.hid hn
  clear hn
  replace e2 : (op == 2) = false := beq_eq_false_iff_ne.mpr e2
  replace e5 : (op == 5) = false := beq_eq_false_iff_ne.mpr e5
  replace e18 : (op == 18) = false := beq_eq_false_iff_ne.mpr e18
  replace e6 : (op == 6) = false := beq_eq_false_iff_ne.mpr e6
  replace e7 : (op == 7) = false := beq_eq_false_iff_ne.mpr e7
  replace e8 : (op == 8) = false := beq_eq_false_iff_ne.mpr e8
  replace e9 : (op == 9) = false := beq_eq_false_iff_ne.mpr e9
  replace e10 : (op == 10) = false := beq_eq_false_iff_ne.mpr e10
  replace e11 : (op == 11) = false := beq_eq_false_iff_ne.mpr e11
  replace e12 : (op == 12) = false := beq_eq_false_iff_ne.mpr e12
  replace e14 : (op == 14) = false := beq_eq_false_iff_ne.mpr e14
  replace e15 : (op == 15) = false := beq_eq_false_iff_ne.mpr e15
  replace e16 : (op == 16) = false := beq_eq_false_iff_ne.mpr e16
  replace e17 : (op == 17) = false := beq_eq_false_iff_ne.mpr e17
  replace e19 : (op == 19) = false := beq_eq_false_iff_ne.mpr e19
  replace e20 : (op == 20) = false := beq_eq_false_iff_ne.mpr e20
  replace e21 : (op == 21) = false := beq_eq_false_iff_ne.mpr e21
  replace e22 : (op == 22) = false := beq_eq_false_iff_ne.mpr e22
  replace e25 : (op == 25) = false := beq_eq_false_iff_ne.mpr e25
  go_enter Try.func52, Try.ntmps52
  go_wp2_with (first | (go_at_call 71; refine (arity_calls _ 0 HAR.out _).mono ?_; rintro e w1 ⟨rfl, ⟨⟨q, rfl⟩⟩⟩))
  go_ret
  exact ⟨by first | rfl | (simp; done) | (simp; omega), (by repeat (first | exact HA.out | refine pw_below_drewN ?_ _))⟩
end Go.Proofs.Ytedghbjmhcgilaa.N
end
section
namespace Go.Proofs.Ytedghbjmhcgilaa.N
open Go.RowKit Go.Proofs.YtedghbjmhcgilaaW.PrintWords Go.Proofs.YtedghbjmhcgilaaW.PrintLast Go.Proofs.YtedghbjmhcgilaaW.PrintMore
open Go.Proofs.Ytedghbjmhcgilaa.POpt
set_option linter.unusedVariables false
set_option linter.unusedSimpArgs false
def gdB (n a b c d : Int) : Bool := (decide (n < 4) && d != 0) || ((decide (n < 3) && c != 0) || ((decide (n < 2) && b != 0) || (decide (n < 1) && a != 0)))
def bodyB (bs : List S30) (op a b c d : Int) : Bool := if op = 2 then isTagB a else if op = 5 then isScalarB a else if op = 18 then isScalarB a else if op = 6 then isEnumB bs a else if op = 7 then isFieldB a else if op = 8 then isFieldB a else if op = 9 then isFieldB a else if op = 10 then isFieldB a && (isMessageB bs b && (decide (c ≥ 0) && (decide (c ≤ 2)))) else if op = 11 then (if b = 16 then (isFieldB a && isEnumB bs (wrap64 (c - 1))) else (isFieldB a && (numericB b && (c == 0)))) else if op = 12 then isFieldB a && (isKeyB b && (isKindB c && (blockB bs c d))) else if op = 14 then isScalarB a && (isFieldB b) else if op = 15 then isScalarB a && (isFieldB b) else if op = 16 then isFieldB a && (decide (c ≥ 0) && (decide (c ≤ 16))) else if op = 17 then isTagB a else if op = 19 then isMessageB bs a else if op = 20 then isTagB a && (isKindB b && (blockB bs b c)) else if op = 21 then isTagB a && (numericB b) else if op = 22 then isTagB a && (isKeyB b && (isKindB c && (blockB bs c d))) else if op = 25 then isTagB a && (isScalarB b) else true
def numB (bs : List S30) (op a b c d : Int) : Bool := if gdB (ar op) a b c d = true then false else bodyB bs op a b c d
theorem numB_calls (bs : List S30) (A : Option Addr) (c0 : Nat) (op a b c d : Int) (w : World) (hr : Kd.C k30 w A bs.length bs) (hc0 : bs.length ≤ c0) :
    Calls Try.prog 52 #[.agg #[.slice A bs.length c0], .agg #[.int .i64 op, .int .i64 a, .int .i64 b, .int .i64 c, .int .i64 d]] w fun e w' => e = .returned (.bool (numB bs op a b c d)) ∧ Below w.heap.size w w' := by
  by_cases hg : gdB (ar op) a b c d = true
  · have e : numB bs op a b c d = false := by unfold numB; rw [if_pos hg]
    rw [e]
    unfold gdB at hg
    simp only [Bool.or_eq_true, Bool.and_eq_true, decide_eq_true_eq, bne_iff_ne] at hg
    by_cases hd : ar op < 4 ∧ d ≠ 0
    · exact numgd bs A c0 op _ a b c d w hr hc0 rfl hd.1 hd.2
    · have h1 : ar op < 4 := by rcases hg with h | h | h | h <;> omega
      obtain rfl : d = 0 := by false_or_by_contra; exact hd ⟨h1, ‹_›⟩
      by_cases hc : ar op < 3 ∧ c ≠ 0
      · exact numgc bs A c0 op _ a b c w hr hc0 rfl hc.1 hc.2
      · have h2 : ar op < 3 := by rcases hg with h | h | h | h <;> first | omega | exact absurd rfl h.2
        obtain rfl : c = 0 := by false_or_by_contra; exact hc ⟨h2, ‹_›⟩
        by_cases hb : ar op < 2 ∧ b ≠ 0
        · exact numgb bs A c0 op _ a b w hr hc0 rfl hb.1 hb.2
        · have h3 : ar op < 2 := by rcases hg with h | h | h | h <;> first | omega | exact absurd rfl h.2
          obtain rfl : b = 0 := by false_or_by_contra; exact hb ⟨h3, ‹_›⟩
          by_cases ha : ar op < 1 ∧ a ≠ 0
          · exact numga bs A c0 op _ a w hr hc0 rfl ha.1 ha.2
          · exfalso; rcases hg with h | h | h | h <;> first | exact h.2 rfl | exact ha h
  · have e : numB bs op a b c d = bodyB bs op a b c d := by unfold numB; rw [if_neg hg]
    rw [e]
    clear e
    have z : ∀ {m : Int} {x : Int}, (decide (ar op < m) && x != 0) = false → ar op < m → x = 0 := fun h h' => by simpa [h'] using h
    have hg2 := Bool.eq_false_iff.mpr hg
    unfold gdB at hg2
    simp only [Bool.or_eq_false_iff] at hg2
    obtain ⟨g4, g3, g2, g1⟩ := hg2
    have Z4 := fun h => z g4 h
    have Z3 := fun h => z g3 h
    have Z2 := fun h => z g2 h
    have Z1 := fun h => z g1 h
    clear z g4 g3 g2 g1 hg
    by_cases e2 : op = 2
    case pos =>
      subst e2
      obtain rfl : d = 0 := Z4 (by decide)
      obtain rfl : c = 0 := Z3 (by decide)
      exact num2 bs A c0 a b w hr hc0
    by_cases e5 : op = 5
    case pos =>
      subst e5
      obtain rfl : d = 0 := Z4 (by decide)
      obtain rfl : c = 0 := Z3 (by decide)
      obtain rfl : b = 0 := Z2 (by decide)
      exact num5 bs A c0 a w hr hc0
    by_cases e18 : op = 18
    case pos =>
      subst e18
      obtain rfl : d = 0 := Z4 (by decide)
      obtain rfl : c = 0 := Z3 (by decide)
      obtain rfl : b = 0 := Z2 (by decide)
      exact num18 bs A c0 a w hr hc0
    by_cases e6 : op = 6
    case pos =>
      subst e6
      obtain rfl : d = 0 := Z4 (by decide)
      obtain rfl : c = 0 := Z3 (by decide)
      obtain rfl : b = 0 := Z2 (by decide)
      exact num6 bs A c0 a w hr hc0
    by_cases e7 : op = 7
    case pos =>
      subst e7
      obtain rfl : d = 0 := Z4 (by decide)
      obtain rfl : c = 0 := Z3 (by decide)
      obtain rfl : b = 0 := Z2 (by decide)
      exact num7 bs A c0 a w hr hc0
    by_cases e8 : op = 8
    case pos =>
      subst e8
      obtain rfl : d = 0 := Z4 (by decide)
      obtain rfl : c = 0 := Z3 (by decide)
      obtain rfl : b = 0 := Z2 (by decide)
      exact num8 bs A c0 a w hr hc0
    by_cases e9 : op = 9
    case pos =>
      subst e9
      obtain rfl : d = 0 := Z4 (by decide)
      obtain rfl : c = 0 := Z3 (by decide)
      obtain rfl : b = 0 := Z2 (by decide)
      exact num9 bs A c0 a w hr hc0
    by_cases e10 : op = 10
    case pos =>
      subst e10
      obtain rfl : d = 0 := Z4 (by decide)
      exact num10 bs A c0 a b c w hr hc0
    by_cases e11 : op = 11
    case pos =>
      subst e11
      obtain rfl : d = 0 := Z4 (by decide)
      by_cases hb : b = 16
      · subst hb
        cases h0 : isFieldB a with
        | false => have e : bodyB bs 11 a 16 c 0 = false := by simp [bodyB, h0]
                   rw [e]; exact num11e0 bs A c0 a c w hr hc0 h0
        | true => have e : bodyB bs 11 a 16 c 0 = isEnumB bs (wrap64 (c - 1)) := by simp [bodyB, h0]
                  rw [e]; exact num11e1 bs A c0 a c w hr hc0 h0
      · cases h0 : isFieldB a with
        | false => have e : bodyB bs 11 a b c 0 = false := by simp [bodyB, h0]
                   rw [e]; exact num11n0 bs A c0 a b c w hr hc0 hb h0
        | true =>
          cases h1 : numericB b with
          | false => have e : bodyB bs 11 a b c 0 = false := by simp [bodyB, h0, h1, hb]
                     rw [e]; exact num11n1 bs A c0 a b c w hr hc0 hb h0 h1
          | true => have e : bodyB bs 11 a b c 0 = (c == 0) := by simp [bodyB, h0, h1, hb]
                    rw [e]; exact num11n2 bs A c0 a b c w hr hc0 hb h0 h1
    by_cases e12 : op = 12
    case pos =>
      subst e12
      exact num12 bs A c0 a b c d w hr hc0
    by_cases e14 : op = 14
    case pos =>
      subst e14
      obtain rfl : d = 0 := Z4 (by decide)
      obtain rfl : c = 0 := Z3 (by decide)
      exact num14 bs A c0 a b w hr hc0
    by_cases e15 : op = 15
    case pos =>
      subst e15
      obtain rfl : d = 0 := Z4 (by decide)
      obtain rfl : c = 0 := Z3 (by decide)
      exact num15 bs A c0 a b w hr hc0
    by_cases e16 : op = 16
    case pos =>
      subst e16
      obtain rfl : d = 0 := Z4 (by decide)
      exact num16 bs A c0 a b c w hr hc0
    by_cases e17 : op = 17
    case pos =>
      subst e17
      obtain rfl : d = 0 := Z4 (by decide)
      obtain rfl : c = 0 := Z3 (by decide)
      obtain rfl : b = 0 := Z2 (by decide)
      exact num17 bs A c0 a w hr hc0
    by_cases e19 : op = 19
    case pos =>
      subst e19
      obtain rfl : d = 0 := Z4 (by decide)
      obtain rfl : c = 0 := Z3 (by decide)
      obtain rfl : b = 0 := Z2 (by decide)
      exact num19 bs A c0 a w hr hc0
    by_cases e20 : op = 20
    case pos =>
      subst e20
      obtain rfl : d = 0 := Z4 (by decide)
      exact num20 bs A c0 a b c w hr hc0
    by_cases e21 : op = 21
    case pos =>
      subst e21
      obtain rfl : d = 0 := Z4 (by decide)
      obtain rfl : c = 0 := Z3 (by decide)
      exact num21 bs A c0 a b w hr hc0
    by_cases e22 : op = 22
    case pos =>
      subst e22
      exact num22 bs A c0 a b c d w hr hc0
    by_cases e25 : op = 25
    case pos =>
      subst e25
      obtain rfl : d = 0 := Z4 (by decide)
      obtain rfl : c = 0 := Z3 (by decide)
      exact num25 bs A c0 a b w hr hc0
    have hbt : bodyB bs op a b c d = true := by unfold bodyB; rw [if_neg e2, if_neg e5, if_neg e18, if_neg e6, if_neg e7, if_neg e8, if_neg e9, if_neg e10, if_neg e11, if_neg e12, if_neg e14, if_neg e15, if_neg e16, if_neg e17, if_neg e19, if_neg e20, if_neg e21, if_neg e22, if_neg e25]
    rw [hbt]
    by_cases e3 : op = 3
    case pos =>
      subst e3
      obtain rfl : d = 0 := Z4 (by decide)
      obtain rfl : c = 0 := Z3 (by decide)
      obtain rfl : b = 0 := Z2 (by decide)
      exact num3 bs A c0 a w hr hc0
    by_cases e4 : op = 4
    case pos =>
      subst e4
      obtain rfl : d = 0 := Z4 (by decide)
      obtain rfl : c = 0 := Z3 (by decide)
      obtain rfl : b = 0 := Z2 (by decide)
      exact num4 bs A c0 a w hr hc0
    have h0 : ar op = 0 := by unfold ar; simp only [*, false_or, if_false, or_self]
    obtain rfl : d = 0 := Z4 (by omega)
    obtain rfl : c = 0 := Z3 (by omega)
    obtain rfl : b = 0 := Z2 (by omega)
    obtain rfl : a = 0 := Z1 (by omega)
    exact numd bs A c0 op w hr hc0 h0 e2 e5 e18 e6 e7 e8 e9 e10 e11 e12 e14 e15 e16 e17 e19 e20 e21 e22 e25
end Go.Proofs.Ytedghbjmhcgilaa.N
end
section
namespace Go.Proofs.Ytedghbjmhcgilaa.A
open Go.RowKit Go.Proofs.YtedghbjmhcgilaaW.PrintWords Go.Proofs.YtedghbjmhcgilaaW.PrintLast Go.Proofs.YtedghbjmhcgilaaW.PrintMore
open Go.Proofs.Ytedghbjmhcgilaa.POpt
set_option linter.unusedVariables false
set_option linter.unusedSimpArgs false
theorem w64i {x : Int} (h : -9223372036854775808 ≤ x ∧ x ≤ 9223372036854775807) : wrap64 x = x := by unfold wrap64; omega
theorem rd35 (l : List S35) (i : Nat) : rd_T35 l (i : Int) = at5 l i := by unfold rd_T35 at5; rw [Int.toNat_natCast]
def at2 (l : List S37) (i : Nat) : S37 := l.getD i z37
theorem rd37 (l : List S37) (i : Nat) : rd_T37 l (i : Int) = at2 l i := by unfold rd_T37 at2; rw [Int.toNat_natCast]
theorem at2_lt {l : List S37} {i : Nat} (h : i < l.length) : at2 l i = l[i] := by simp [at2, h]
def numS (bs : List S30) (x : S35) : Bool := N.numB bs x.f0 x.f1 x.f2 x.f3 x.f4
def okD (bs : List S30) (n i : Nat) (x : S35) : Bool :=
  (decide (1 ≤ x.f0) && (decide (x.f0 ≤ 15) && (!(x.f0 == 1 && decide (0 < i)) && numS bs x))) && (!(x.f0 == 2 && (decide (x.f2 ≤ i) || decide (x.f2 ≥ n))) && (!(x.f0 == 3 && (decide (x.f1 ≤ i) || decide (x.f1 ≥ n))) && !(x.f0 == 4 && (decide (x.f1 < 0) || (decide (x.f1 ≥ n) || (decide (x.f1 > 0) && decide (x.f1 ≤ i)))))))
def jl (l : List S35) : Nat → Nat → Int → Int → Int × Int
  | 0, _, J, L => (J, L)
  | p + 1, i, J, L => if (at5 l i).f0 = 3 then jl l p (i + 1) (J + 1) i else jl l p (i + 1) J L
def rowsB (n : Nat) (L : Int) (r : List S37) : Bool := r.all fun y => N.isTagB y.f0 && (decide (L < y.f1) && decide (y.f1 < n))
def decB (bs : List S30) (l : List S35) (r : List S37) : Bool :=
  (decide (0 < l.length) && ((at5 l (l.length - 1)).f0 == 4 && (at5 l 0).f0 == 1)) && ((List.range l.length).all (fun j => okD bs l.length j (at5 l j)) && ((decide ((jl l l.length 0 0 0).1 > 0) == decide (0 < r.length)) && rowsB l.length (jl l l.length 0 0 0).2 r))
theorem decB_bad {bs : List S30} {l : List S35} {r : List S37} {i : Nat} (hi : i < l.length) (h : okD bs l.length i (at5 l i) = false) : decB bs l r = false := by
  unfold decB
  have : (List.range l.length).all (fun j => okD bs l.length j (at5 l j)) = false := by
    rw [List.all_eq_false]
    exact ⟨i, List.mem_range.2 hi, by simp [h]⟩
  rw [this]
  simp
structure Met3 (l : List S35) (i : Nat) (J L : Int) : Prop where
  j0 : 0 ≤ J ∧ J ≤ i
  none_ : J = 0 → ∀ j, j < i → (at5 l j).f0 ≠ 3
  some_ : 0 < J → ∃ j, j < i ∧ (at5 l j).f0 = 3
  last : ∀ j, j < i → (at5 l j).f0 = 3 → (j : Int) ≤ L
  l0 : 0 ≤ L
theorem Met3.next {l : List S35} {i : Nat} {J L : Int} (h : Met3 l i J L) : Met3 l (i + 1) (if (at5 l i).f0 = 3 then J + 1 else J) (if (at5 l i).f0 = 3 then (i : Int) else L) := by
  have h0 := h.j0
  by_cases h3 : (at5 l i).f0 = 3
  · rw [if_pos h3, if_pos h3]
    refine ⟨by omega, fun h => by omega, fun _ => ⟨i, by omega, h3⟩, fun j hj _ => by omega, by omega⟩
  · rw [if_neg h3, if_neg h3]
    refine ⟨by omega, fun hh j hj => ?_, fun hh => ?_, fun j hj hj3 => ?_, h.l0⟩
    · by_cases ej : j = i
      · subst ej; exact h3
      · exact h.none_ hh j (by omega)
    · obtain ⟨j, h1, h2⟩ := h.some_ hh
      exact ⟨j, by omega, h2⟩
    · by_cases ej : j = i
      · subst ej; exact absurd hj3 h3
      · exact h.last j (by omega) hj3
theorem jl_met {l : List S35} : ∀ (p i : Nat) (J L : Int), Met3 l i J L → Met3 l (i + p) (jl l p i J L).1 (jl l p i J L).2 := by
  intro p
  induction p with
  | zero => intro i J L h; exact h
  | succ p ih =>
    intro i J L h
    have hn := h.next
    rw [jl]
    by_cases h3 : (at5 l i).f0 = 3
    · rw [if_pos h3] at *
      rw [if_pos h3] at hn
      have := ih _ _ _ hn
      rwa [show i + 1 + p = i + (p + 1) by omega] at this
    · rw [if_neg h3] at *
      rw [if_neg h3] at hn
      have := ih _ _ _ hn
      rwa [show i + 1 + p = i + (p + 1) by omega] at this
theorem met_zero (l : List S35) : Met3 l 0 0 0 := ⟨by omega, fun _ j hj => by omega, fun h => by omega, fun j hj => by omega, by omega⟩
structure DecOK (bs : List S30) (l : List S35) (r : List S37) : Prop where
  good : GoodD l r
  num : ∀ x ∈ l, numS bs x = true
  tags : ∀ y ∈ r, N.isTagB y.f0 = true
theorem okD_facts {bs : List S30} {n i : Nat} {x : S35} (h : okD bs n i x = true) : (1 ≤ x.f0 ∧ x.f0 ≤ 15) ∧ (x.f0 = 1 → i = 0) ∧ numS bs x = true ∧ (x.f0 = 2 → (i : Int) < x.f2 ∧ x.f2 < n) ∧ (x.f0 = 3 → (i : Int) < x.f1 ∧ x.f1 < n) ∧ (x.f0 = 4 → x.f1 = 0 ∨ ((i : Int) < x.f1 ∧ x.f1 < n)) := by
  unfold okD at h
  simp only [Bool.and_eq_true, decide_eq_true_eq, Bool.not_eq_true', Bool.and_eq_false_iff, Bool.or_eq_false_iff, decide_eq_false_iff_not, beq_eq_false_iff_ne] at h
  obtain ⟨⟨h1, h2, h3, h4⟩, h5, h6, h7⟩ := h
  refine ⟨⟨h1, h2⟩, fun e => ?_, h4, fun e => ?_, fun e => ?_, fun e => ?_⟩
  · rcases h3 with h | h
    · exact absurd e h
    · omega
  · rcases h5 with h | h
    · exact absurd e h
    · omega
  · rcases h6 with h | h
    · exact absurd e h
    · omega
  · rcases h7 with h | h
    · exact absurd e h
    · obtain ⟨a, b, c⟩ := h
      by_cases z : x.f1 = 0
      · exact .inl z
      · right
        rcases c with c | c
        · omega
        · omega
theorem decB_ok {bs : List S30} {l : List S35} {r : List S37} (h : decB bs l r = true) : DecOK bs l r := by
  unfold decB at h
  simp only [Bool.and_eq_true, decide_eq_true_eq, beq_iff_eq, List.all_eq_true, List.mem_range] at h
  obtain ⟨⟨h0, h4, h1⟩, hall, hj, hr⟩ := h
  have hm := jl_met l.length 0 0 0 (met_zero l)
  rw [Nat.zero_add] at hm
  unfold rowsB at hr
  simp only [List.all_eq_true, Bool.and_eq_true, decide_eq_true_eq] at hr
  have F := fun i hi => okD_facts (hall i hi)
  refine ⟨⟨h0, h1, h4, fun i hi => (F i hi).1, fun i hi => (F i hi).2.1, fun i hi => (F i hi).2.2.2.1, fun i hi => (F i hi).2.2.2.2.1, fun i hi => (F i hi).2.2.2.2.2, fun y hy => ?_, fun y hy j hjl h3 => ?_, fun e j hjl => ?_⟩, fun x hx => ?_, fun y hy => (hr y hy).1⟩
  · have := (hr y hy).2; have := hm.l0; omega
  · have := (hr y hy).2; have := hm.last j hjl h3; omega
  · subst e
    have hJ : (jl l l.length 0 0 0).1 = 0 := by
      have := hm.j0
      false_or_by_contra
      have hJ : (jl l l.length 0 0 0).1 > 0 := by omega
      simp [hJ] at hj
    exact hm.none_ hJ j hjl
  · obtain ⟨i, hi, rfl⟩ := List.mem_iff_getElem.1 hx
    have := (F i hi).2.2.1
    rwa [at5_lt hi] at this
end Go.Proofs.Ytedghbjmhcgilaa.A
end
