import Derived.Test.YtedghbjmhcgilaaKt4
import Derived.Test.YtedghbjmhcgilaaKt14
import Derived.Test.YtedghbjmhcgilaaKt18
section
namespace Go.Proofs.Ytedghbjmhcgilaa.POpt
open Go.RowKit Go.Proofs.YtedghbjmhcgilaaW.PrintWords Go.Proofs.YtedghbjmhcgilaaW.PrintLast Go.Proofs.YtedghbjmhcgilaaW.PrintMore
attribute [local go_sem] max2_int min2_int max_two min_two max_three min_three max_four min_four
set_option linter.unusedVariables false
set_option linter.unusedSimpArgs false
mutual
def cartoucheref13_Valid.l0 : Nat → Int → List (S30) → Option (Bool)
 | 0, _, _ => none
 | k + 1, x3, x246000 => if x3 < (x246000.length : Int) then (if 0 ≤ x3 then ((cartoucheref13_rising.f k ((rd_T30 x246000 x3).f2)).bind fun t248 => (if t248 = true then ((cartoucheref13_isMessage.f x246000 x3).bind fun t249 => (if t249 = true then ((cartoucheref13_dec.f x246000 ((rd_T30 x246000 x3).f0) ((rd_T30 x246000 x3).f1) ((rd_T30 x246000 x3).f2)).bind fun t250 => (if t250 = true then ((cartoucheref13_enc.f k x246000 ((rd_T30 x246000 x3).f0) ((rd_T30 x246000 x3).f1) ((rd_T30 x246000 x3).f2)).bind fun t251 => (if t251 = true then (cartoucheref13_Valid.l0 k (wrap64 (x3 + 1)) x246000) else (some false))) else (some false))) else (if (((rd_T30 x246000 x3).f2).length : Int) < 1 then (cartoucheref13_Valid.j1 k x3 true x246000 ((rd_T30 x246000 x3).f0) ((rd_T30 x246000 x3).f1) ((rd_T30 x246000 x3).f2)) else (cartoucheref13_Valid.j1 k x3 (decide ((((rd_T30 x246000 x3).f2).length : Int) > 128)) x246000 ((rd_T30 x246000 x3).f0) ((rd_T30 x246000 x3).f1) ((rd_T30 x246000 x3).f2))))) else (some false))) else (none)) else (some true)
def cartoucheref13_Valid.j1 : Nat → Int → Bool → List (S30) → List (S35) → List (S35) → List (S37) → Option (Bool)
 | 0, _, _, _, _, _, _ => none
 | k + 1, x3, x48, x246000, x248000, x248001, x248002 => if x48 = true then (some false) else (cartoucheref13_Valid.l1 k x3 0 x246000 x248000 x248001 x248002)
def cartoucheref13_Valid.l1 : Nat → Int → Int → List (S30) → List (S35) → List (S35) → List (S37) → Option (Bool)
 | 0, _, _, _, _, _, _ => none
 | k + 1, x3, x5, x246000, x248000, x248001, x248002 => if x5 < (x248002.length : Int) then (if 0 ≤ x5 then (if ((rd_T37 x248002 x5).f0) < 0 then (some false) else (if ((rd_T37 x248002 x5).f0) ≥ 2147483648 then (some false) else (if ((rd_T37 x248002 x5).f1) = 0 then (cartoucheref13_Valid.l1 k x3 (wrap64 (x5 + 1)) x246000 x248000 x248001 x248002) else (some false)))) else (none)) else (cartoucheref13_Valid.l0 k (wrap64 (x3 + 1)) x246000)
end
def cartoucheref13_Valid.f (k : Nat) (l0_0 : List (S30)) : Option (Bool) := if (l0_0.length : Int) > 128 then (some false) else (cartoucheref13_Valid.l0 k 0 l0_0)
theorem cartoucheref13_Valid.mono_l : ∀ k, (∀ y0 y1, LeO (cartoucheref13_Valid.l0 k y0 y1) (cartoucheref13_Valid.l0 (k + 1) y0 y1)) ∧ (∀ y0 y1 y2 y3 y4 y5, LeO (cartoucheref13_Valid.j1 k y0 y1 y2 y3 y4 y5) (cartoucheref13_Valid.j1 (k + 1) y0 y1 y2 y3 y4 y5)) ∧ (∀ y0 y1 y2 y3 y4 y5, LeO (cartoucheref13_Valid.l1 k y0 y1 y2 y3 y4 y5) (cartoucheref13_Valid.l1 (k + 1) y0 y1 y2 y3 y4 y5))
 | 0 => ⟨fun _ _ r h => by simp [cartoucheref13_Valid.l0] at h, fun _ _ _ _ _ _ r h => by simp [cartoucheref13_Valid.j1] at h, fun _ _ _ _ _ _ r h => by simp [cartoucheref13_Valid.l1] at h⟩
 | k + 1 => by
  obtain ⟨ih0, ih1, ih2⟩ := cartoucheref13_Valid.mono_l k
  refine ⟨?_, ?_, ?_⟩
  ·intro y0 y1
   unfold cartoucheref13_Valid.l0
   repeat' first
   | (with_reducible exact ih0 _ _)
   | (with_reducible exact ih1 _ _ _ _ _ _)
   | (with_reducible exact ih2 _ _ _ _ _ _)
   | (with_reducible exact cartoucheref13_enc.mono _ _ _ _ _)
   | (with_reducible exact cartoucheref13_rising.mono _ _)
   | (with_reducible exact LeO.refl _)
   | (with_reducible exact LeO.none _)
   | (with_reducible refine LeO.ite ?_ ?_)
   | (with_reducible refine LeO.bind ?_ (fun _ => ?_))
   | exact ih0 _ _
   | exact ih1 _ _ _ _ _ _
   | exact ih2 _ _ _ _ _ _
   | exact cartoucheref13_enc.mono _ _ _ _ _
   | exact cartoucheref13_rising.mono _ _
   | exact LeO.none _
   | refine LeO.ite ?_ ?_
   | refine LeO.bind ?_ (fun _ => ?_)
  ·intro y0 y1 y2 y3 y4 y5
   unfold cartoucheref13_Valid.j1
   repeat' first
   | (with_reducible exact ih0 _ _)
   | (with_reducible exact ih1 _ _ _ _ _ _)
   | (with_reducible exact ih2 _ _ _ _ _ _)
   | (with_reducible exact cartoucheref13_enc.mono _ _ _ _ _)
   | (with_reducible exact cartoucheref13_rising.mono _ _)
   | (with_reducible exact LeO.refl _)
   | (with_reducible exact LeO.none _)
   | (with_reducible refine LeO.ite ?_ ?_)
   | (with_reducible refine LeO.bind ?_ (fun _ => ?_))
   | exact ih0 _ _
   | exact ih1 _ _ _ _ _ _
   | exact ih2 _ _ _ _ _ _
   | exact cartoucheref13_enc.mono _ _ _ _ _
   | exact cartoucheref13_rising.mono _ _
   | exact LeO.none _
   | refine LeO.ite ?_ ?_
   | refine LeO.bind ?_ (fun _ => ?_)
  ·intro y0 y1 y2 y3 y4 y5
   unfold cartoucheref13_Valid.l1
   repeat' first
   | (with_reducible exact ih0 _ _)
   | (with_reducible exact ih1 _ _ _ _ _ _)
   | (with_reducible exact ih2 _ _ _ _ _ _)
   | (with_reducible exact cartoucheref13_enc.mono _ _ _ _ _)
   | (with_reducible exact cartoucheref13_rising.mono _ _)
   | (with_reducible exact LeO.refl _)
   | (with_reducible exact LeO.none _)
   | (with_reducible refine LeO.ite ?_ ?_)
   | (with_reducible refine LeO.bind ?_ (fun _ => ?_))
   | exact ih0 _ _
   | exact ih1 _ _ _ _ _ _
   | exact ih2 _ _ _ _ _ _
   | exact cartoucheref13_enc.mono _ _ _ _ _
   | exact cartoucheref13_rising.mono _ _
   | exact LeO.none _
   | refine LeO.ite ?_ ?_
   | refine LeO.bind ?_ (fun _ => ?_)
set_option maxHeartbeats 8000000 in
set_option maxRecDepth 100000 in
theorem cartoucheref13_Valid.calls (k : Nat) (A0_0 : Option Addr) (c0_0 : Nat) (l0_0 : List (S30)) (r : Bool) (w : World) (hr0_0 : Kd.C k30 w A0_0 l0_0.length l0_0) (hc0_0 : l0_0.length ≤ c0_0) (h : cartoucheref13_Valid.f k l0_0 = some r) :
  Calls Try.prog 9 #[.agg #[.slice A0_0 l0_0.length c0_0]] w fun e w' => e = .returned (.bool r) ∧ Below w.heap.size w w' := by
 have hu24 := Try.underlying24
 have hu30 := Try.underlying30
 have HR0_0 := Aside0.mk hr0_0
 have HC0_0 := Aside0.mk hc0_0
 clear hr0_0 hc0_0
 have HB := Aside0.mk (Below.refl w.heap.size w)
 have H : (if (l0_0.length : Int) > 128 then (some false) else (cartoucheref13_Valid.l0 k 0 l0_0)) = some r := h
 clear h
 by_cases c2 : (l0_0.length : Int) > 128
 ·rw [if_pos c2] at H
  have c2b0 : decide (128 < (l0_0.length : Int)) = true := decide_eq_true c2
  have c2b1 : decide (128 < l0_0.length) = true := decide_eq_true (by omega)
  clear c2
  obtain rfl := Option.some.inj H
  go_enter Try.func9, Try.ntmps9
  go_wp2_with (first | ((with_reducible refine gate_dst (N := 1) rfl ?_); (try (refine gate_guard (by rfl) ?_; dsimp only)); refine box_event ?hg (N := 1) ?hd (cs := #[.slice A0_0 l0_0.length c0_0]) (t := 24) ?hr ?_; (case hd => rfl); (case hg => rfl); (case hr => first | (go_simp; done) | (go_simp; rfl)); intro gb245 hg w3 hbox hb; have n0_ := Aside0.mk (below_step (by repeat (first | (with_reducible first | exact HB.out | apply below_alloc | apply pw_below_drewN | apply below_drew1) | exact HB.out)) hb); have n1_ := Aside0.mk (hbox); have n2_ := Aside0.mk ((by rw [hg]; exact (below_size (by repeat (first | (with_reducible first | exact HB.out | apply below_alloc | apply pw_below_drewN | apply below_drew1) | exact HB.out))) : w.heap.size ≤ gb245)); have n3_ := Aside0.mk ((by rw [hg]; exact (below_size (by repeat (first | (with_reducible first | exact HB.out | apply below_alloc | apply pw_below_drewN | apply below_drew1) | exact HB.out))) : w.heap.size ≤ gb245)); clear HB; have HB := n0_; have BK245 := n1_; have GW245 := n2_; have GE245 := n3_; clear n0_ n1_ n2_ n3_; clear hb hbox hg; have hcz4_0 : w3.cell? ⟨gb245, 0, none⟩ = some (.slice A0_0 l0_0.length c0_0) := (blk_cell BK245.out 0).trans rfl; have hfz4_0 := blk_frozen BK245.out 0))
  go_ret
  exact ⟨by first | rfl | (simp [errW_none, errW_some] <;> rfl) | (simp [*, errW_none, errW_some] <;> rfl), by repeat (first | (with_reducible first | exact HB.out | apply below_alloc | apply pw_below_drewN | apply below_drew1 | refine below_set ?_ GE245.out) | exact HB.out)⟩
 ·rw [if_neg c2] at H
  have c2b0 : decide (128 < (l0_0.length : Int)) = false := decide_eq_false c2
  have c2b1 : decide (128 < l0_0.length) = false := decide_eq_false (by omega)
  clear c2
  have H' := Aside0.mk H
  clear H
  go_enter Try.func9, Try.ntmps9
  go_wp2_with (first | ((with_reducible refine gate_dst (N := 1) rfl ?_); (try (refine gate_guard (by rfl) ?_; dsimp only)); refine box_event ?hg (N := 1) ?hd (cs := #[.slice A0_0 l0_0.length c0_0]) (t := 24) ?hr ?_; (case hd => rfl); (case hg => rfl); (case hr => first | (go_simp; done) | (go_simp; rfl)); intro gb245 hg w5 hbox hb; have n0_ := Aside0.mk (below_step (by repeat (first | (with_reducible first | exact HB.out | apply below_alloc | apply pw_below_drewN | apply below_drew1) | exact HB.out)) hb); have n1_ := Aside0.mk (hbox); have n2_ := Aside0.mk ((by rw [hg]; exact (below_size (by repeat (first | (with_reducible first | exact HB.out | apply below_alloc | apply pw_below_drewN | apply below_drew1) | exact HB.out))) : w.heap.size ≤ gb245)); have n3_ := Aside0.mk ((by rw [hg]; exact (below_size (by repeat (first | (with_reducible first | exact HB.out | apply below_alloc | apply pw_below_drewN | apply below_drew1) | exact HB.out))) : w.heap.size ≤ gb245)); clear HB; have HB := n0_; have BK245 := n1_; have GW245 := n2_; have GE245 := n3_; clear n0_ n1_ n2_ n3_; clear hb hbox hg; have hcz6_0 : w5.cell? ⟨gb245, 0, none⟩ = some (.slice A0_0 l0_0.length c0_0) := (blk_cell BK245.out 0).trans rfl; have hfz6_0 := blk_frozen BK245.out 0))
  go_loopg [3] k (fun kq v3 w' => ∃ (x3_1 : Int), v3 = .int .i64 x3_1 ∧ Aside0 (cartoucheref13_Valid.l0 kq x3_1 l0_0 = some r) ∧ Aside0 (kq ≤ k) ∧ Aside0 (w'.heap[gb245]? = some (.cells #[(.slice A0_0 l0_0.length c0_0)] 24 (0, 0))) ∧ Aside0 (Below w.heap.size w w'))
  case atStart => exact ⟨(0), (by first | rfl | (simp; done) | (simp [*]; done)), H', ⟨Nat.le_refl _⟩, ⟨by (with_reducible repeat (first | refine blk_drewN ?_ _ | refine blk_drew ?_ | refine blk_alloc ?_ _)); exact BK245.out⟩, ⟨by repeat (first | (with_reducible first | exact HB.out | apply below_alloc | apply pw_below_drewN | apply below_drew1 | refine below_set ?_ GE245.out) | exact HB.out)⟩⟩
  case round =>
   clear H'
   try clear c2
   try clear c2b0
   try clear c2b1
   try clear p2
   try clear hcz4_0
   try clear hcz6_0
   try clear hfz4_0
   try clear hfz6_0
   obtain ⟨x3_1, rfl, HA, HK1, BK245, HB⟩ := hrel
   cases gk with
   | zero => exact absurd HA.out (by simp [cartoucheref13_Valid.l0])
   | succ k1 =>
    have H := HA.out
    clear HA
    simp only [cartoucheref13_Valid.l0] at H
    by_cases c7 : x3_1 < (l0_0.length : Int)
    ·rw [if_pos c7] at H
     have c7b0 : decide (x3_1 < (l0_0.length : Int)) = true := decide_eq_true c7
     clear c7
     by_cases c8 : 0 ≤ x3_1
     ·rw [if_pos c8] at H
      have c8b0 : decide (0 ≤ x3_1) = true := decide_eq_true c8
      clear c8
      replace H := Option.bind_eq_some_iff.mp H
      obtain ⟨t248, A90, H⟩ := H
      replace H : (if t248 = true then ((cartoucheref13_isMessage.f l0_0 x3_1).bind fun t249 => (if t249 = true then ((cartoucheref13_dec.f l0_0 ((rd_T30 l0_0 x3_1).f0) ((rd_T30 l0_0 x3_1).f1) ((rd_T30 l0_0 x3_1).f2)).bind fun t250 => (if t250 = true then ((cartoucheref13_enc.f k1 l0_0 ((rd_T30 l0_0 x3_1).f0) ((rd_T30 l0_0 x3_1).f1) ((rd_T30 l0_0 x3_1).f2)).bind fun t251 => (if t251 = true then (cartoucheref13_Valid.l0 k1 (wrap64 (x3_1 + 1)) l0_0) else (some false))) else (some false))) else (if (((rd_T30 l0_0 x3_1).f2).length : Int) < 1 then (cartoucheref13_Valid.j1 k1 x3_1 true l0_0 ((rd_T30 l0_0 x3_1).f0) ((rd_T30 l0_0 x3_1).f1) ((rd_T30 l0_0 x3_1).f2)) else (cartoucheref13_Valid.j1 k1 x3_1 (decide ((((rd_T30 l0_0 x3_1).f2).length : Int) > 128)) l0_0 ((rd_T30 l0_0 x3_1).f0) ((rd_T30 l0_0 x3_1).f1) ((rd_T30 l0_0 x3_1).f2))))) else (some false)) = some r := H
      have A9 := Aside0.mk A90
      clear A90
      by_cases c10 : t248 = true
      ·subst c10
       have H1 : ((cartoucheref13_isMessage.f l0_0 x3_1).bind fun t249 => (if t249 = true then ((cartoucheref13_dec.f l0_0 ((rd_T30 l0_0 x3_1).f0) ((rd_T30 l0_0 x3_1).f1) ((rd_T30 l0_0 x3_1).f2)).bind fun t250 => (if t250 = true then ((cartoucheref13_enc.f k1 l0_0 ((rd_T30 l0_0 x3_1).f0) ((rd_T30 l0_0 x3_1).f1) ((rd_T30 l0_0 x3_1).f2)).bind fun t251 => (if t251 = true then (cartoucheref13_Valid.l0 k1 (wrap64 (x3_1 + 1)) l0_0) else (some false))) else (some false))) else (if (((rd_T30 l0_0 x3_1).f2).length : Int) < 1 then (cartoucheref13_Valid.j1 k1 x3_1 true l0_0 ((rd_T30 l0_0 x3_1).f0) ((rd_T30 l0_0 x3_1).f1) ((rd_T30 l0_0 x3_1).f2)) else (cartoucheref13_Valid.j1 k1 x3_1 (decide ((((rd_T30 l0_0 x3_1).f2).length : Int) > 128)) l0_0 ((rd_T30 l0_0 x3_1).f0) ((rd_T30 l0_0 x3_1).f1) ((rd_T30 l0_0 x3_1).f2))))) = some r := by rw [if_pos rfl] at H; exact H
       clear H
       have H := H1
       clear H1
       replace H := Option.bind_eq_some_iff.mp H
       obtain ⟨t249, A110, H⟩ := H
       replace H : (if t249 = true then ((cartoucheref13_dec.f l0_0 ((rd_T30 l0_0 x3_1).f0) ((rd_T30 l0_0 x3_1).f1) ((rd_T30 l0_0 x3_1).f2)).bind fun t250 => (if t250 = true then ((cartoucheref13_enc.f k1 l0_0 ((rd_T30 l0_0 x3_1).f0) ((rd_T30 l0_0 x3_1).f1) ((rd_T30 l0_0 x3_1).f2)).bind fun t251 => (if t251 = true then (cartoucheref13_Valid.l0 k1 (wrap64 (x3_1 + 1)) l0_0) else (some false))) else (some false))) else (if (((rd_T30 l0_0 x3_1).f2).length : Int) < 1 then (cartoucheref13_Valid.j1 k1 x3_1 true l0_0 ((rd_T30 l0_0 x3_1).f0) ((rd_T30 l0_0 x3_1).f1) ((rd_T30 l0_0 x3_1).f2)) else (cartoucheref13_Valid.j1 k1 x3_1 (decide ((((rd_T30 l0_0 x3_1).f2).length : Int) > 128)) l0_0 ((rd_T30 l0_0 x3_1).f0) ((rd_T30 l0_0 x3_1).f1) ((rd_T30 l0_0 x3_1).f2)))) = some r := H
       have A11 := Aside0.mk A110
       clear A110
       by_cases c12 : t249 = true
       ·subst c12
        have H1 : ((cartoucheref13_dec.f l0_0 ((rd_T30 l0_0 x3_1).f0) ((rd_T30 l0_0 x3_1).f1) ((rd_T30 l0_0 x3_1).f2)).bind fun t250 => (if t250 = true then ((cartoucheref13_enc.f k1 l0_0 ((rd_T30 l0_0 x3_1).f0) ((rd_T30 l0_0 x3_1).f1) ((rd_T30 l0_0 x3_1).f2)).bind fun t251 => (if t251 = true then (cartoucheref13_Valid.l0 k1 (wrap64 (x3_1 + 1)) l0_0) else (some false))) else (some false))) = some r := by rw [if_pos rfl] at H; exact H
        clear H
        have H := H1
        clear H1
        replace H := Option.bind_eq_some_iff.mp H
        obtain ⟨t250, A130, H⟩ := H
        replace H : (if t250 = true then ((cartoucheref13_enc.f k1 l0_0 ((rd_T30 l0_0 x3_1).f0) ((rd_T30 l0_0 x3_1).f1) ((rd_T30 l0_0 x3_1).f2)).bind fun t251 => (if t251 = true then (cartoucheref13_Valid.l0 k1 (wrap64 (x3_1 + 1)) l0_0) else (some false))) else (some false)) = some r := H
        have A13 := Aside0.mk A130
        clear A130
        by_cases c14 : t250 = true
        ·subst c14
         have H1 : ((cartoucheref13_enc.f k1 l0_0 ((rd_T30 l0_0 x3_1).f0) ((rd_T30 l0_0 x3_1).f1) ((rd_T30 l0_0 x3_1).f2)).bind fun t251 => (if t251 = true then (cartoucheref13_Valid.l0 k1 (wrap64 (x3_1 + 1)) l0_0) else (some false))) = some r := by rw [if_pos rfl] at H; exact H
         clear H
         have H := H1
         clear H1
         replace H := Option.bind_eq_some_iff.mp H
         obtain ⟨t251, A150, H⟩ := H
         replace H : (if t251 = true then (cartoucheref13_Valid.l0 k1 (wrap64 (x3_1 + 1)) l0_0) else (some false)) = some r := H
         have A15 := Aside0.mk A150
         clear A150
         by_cases c16 : t251 = true
         ·subst c16
          have H1 : (cartoucheref13_Valid.l0 k1 (wrap64 (x3_1 + 1)) l0_0) = some r := by rw [if_pos rfl] at H; exact H
          clear H
          have H := H1
          clear H1
          have H' := Aside0.mk H
          clear H
          have hcz17_0 : wr.cell? ⟨gb245, 0, none⟩ = some (.slice A0_0 l0_0.length c0_0) := (blk_cell BK245.out 0).trans rfl
          have hfz17_0 := blk_frozen BK245.out 0
          have p246 : 0 ≤ (x3_1 : Int) := of_decide_eq_true (by first | (with_reducible assumption) | assumption)
          have q246 : x3_1 < (l0_0.length : Int) := of_decide_eq_true (by first | (with_reducible assumption) | assumption)
          obtain ⟨ad246, A246_0, c246_0, A246_1, c246_1, A246_2, c246_2, e246, hx246_0, hx246_1, hx246_2, hl246_0, hi246_0, hl246_1, hi246_1, hl246_2, hi246_2⟩ := at_T30 HR0_0.out x3_1 p246 q246
          cases e246
          replace hx246_0 := (HB.out.cell (World.block_lt_of_cell? w _ hx246_0)).trans hx246_0
          replace hx246_1 := (HB.out.cell (World.block_lt_of_cell? w _ hx246_1)).trans hx246_1
          replace hx246_2 := (HB.out.cell (World.block_lt_of_cell? w _ hx246_2)).trans hx246_2
          have HR246_0 := Aside0.mk hi246_0
          have HC246_0 := Aside0.mk hl246_0
          clear hi246_0 hl246_0
          have HR246_1 := Aside0.mk hi246_1
          have HC246_1 := Aside0.mk hl246_1
          clear hi246_1 hl246_1
          have HR246_2 := Aside0.mk hi246_2
          have HC246_2 := Aside0.mk hl246_2
          clear hi246_2 hl246_2
          replace p246 := eq_true p246
          replace q246 := eq_true q246
          go_wp2_with (first | ((with_reducible refine gate_dst (N := 4) rfl ?_); (try (refine gate_guard (by rfl) ?_; dsimp only)); refine box_event ?hg (N := 4) ?hd (cs := #[.slice none 0 0, .slice none 0 0, .slice none 0 0]) (t := 30) ?hr ?_; (case hd => rfl); (case hg => rfl); (case hr => first | (go_simp; done) | (go_simp; rfl)); intro gb247 hg w18 hbox hb; have n0_ := Aside0.mk (blk_below (g := gb245) (o := .cells #[.slice (some ad246) l0_0.length c0_0] 24 (0, 0)) (by (with_reducible repeat (first | refine blk_drewN ?_ _ | refine blk_drew ?_ | refine blk_alloc ?_ _)); exact BK245.out) hb); have n1_ := Aside0.mk (below_step (by repeat (first | (with_reducible first | exact HB.out | apply below_alloc | apply pw_below_drewN | apply below_drew1 | refine below_set ?_ GE245.out) | exact HB.out)) hb); have n2_ := Aside0.mk (hbox); have n3_ := Aside0.mk ((by rw [hg]; exact (below_size (by repeat (first | (with_reducible first | exact HB.out | apply below_alloc | apply pw_below_drewN | apply below_drew1 | refine below_set ?_ GE245.out) | exact HB.out))) : w.heap.size ≤ gb247)); have n4_ := Aside0.mk ((by rw [hg]; exact (below_size (by repeat (first | (with_reducible first | exact HB.out | apply below_alloc | apply pw_below_drewN | apply below_drew1 | refine below_set ?_ GE245.out) | exact HB.out))) : w.heap.size ≤ gb247)); have n5_ := Aside0.mk ((by rw [hg]; exact Nat.ne_of_lt (blk_lt (g := gb245) (o := .cells #[.slice (some ad246) l0_0.length c0_0] 24 (0, 0)) (by (with_reducible repeat (first | refine blk_drewN ?_ _ | refine blk_drew ?_ | refine blk_alloc ?_ _)); exact BK245.out)) : gb245 ≠ gb247)); have n6_ := Aside0.mk ((by rw [hg]; exact Nat.ne_of_gt (blk_lt (g := gb245) (o := .cells #[.slice (some ad246) l0_0.length c0_0] 24 (0, 0)) (by (with_reducible repeat (first | refine blk_drewN ?_ _ | refine blk_drew ?_ | refine blk_alloc ?_ _)); exact BK245.out)) : gb247 ≠ gb245)); clear BK245; clear HB; have BK245 := n0_; have HB := n1_; have BK247 := n2_; have GW247 := n3_; have GE247 := n4_; have NB245_247 := n5_; have NB247_245 := n6_; clear n0_ n1_ n2_ n3_ n4_ n5_ n6_; clear hb hbox hg; have hnb19 := NB247_245.out; have hnc19 := NB245_247.out; have hcz20_0 : w18.cell? ⟨gb247, 0, none⟩ = some (.slice none 0 0) := (blk_cell BK247.out 0).trans rfl; have hcz20_1 : w18.cell? ⟨gb247, 1, none⟩ = some (.slice none 0 0) := (blk_cell BK247.out 1).trans rfl; have hcz20_2 : w18.cell? ⟨gb247, 2, none⟩ = some (.slice none 0 0) := (blk_cell BK247.out 2).trans rfl; have hfz20_0 := blk_frozen BK247.out 0; have hfz20_1 := blk_frozen BK247.out 1; have hfz20_2 := blk_frozen BK247.out 2) | ((with_reducible refine gate_callee (f := 29) rfl ?_); refine goesL_ (some 24) rfl rfl Try.func29 (by kernel_rfl) rfl #[.slice A246_2 ((rd_T30 l0_0 x3_1).f2).length c246_2] rfl (by (try simp only [List.map_toArray, List.map_cons, List.map_nil]); first | done | rfl | (simp only [List.length_drop, List.length_take]; rfl)) ?_; (with_reducible refine (cartoucheref13_rising.calls k1 _ _ ((rd_T30 l0_0 x3_1).f2) true _ ?side1 ?side2 A9.out).mono ?_); (case side1 => exact Kd.C_below HR246_2.out (by repeat (first | (with_reducible first | exact HB.out | apply below_alloc | apply pw_below_drewN | apply below_drew1 | refine below_set ?_ GE245.out | refine below_set ?_ GE247.out) | exact HB.out))); (case side2 => exact HC246_2.out); rintro e w' ⟨rfl, ⟨nd, rfl⟩⟩; refine ⟨_, rfl, ?_⟩; have hcz21_0 : w18.cell? ⟨gb245, 0, none⟩ = some (.slice (some ad246) l0_0.length c0_0) := (blk_cell BK245.out 0).trans rfl; have hfz21_0 := blk_frozen BK245.out 0) | ((with_reducible refine gate_callee (f := 30) rfl ?_); refine goesL_ (some 28) rfl rfl Try.func30 (by kernel_rfl) rfl #[.agg #[.slice (some ad246) l0_0.length c0_0], .int .i64 x3_1] rfl (by (try simp only [List.map_toArray, List.map_cons, List.map_nil]); first | done | rfl | (simp only [List.length_drop, List.length_take]; rfl)) ?_; (with_reducible refine (cartoucheref13_isMessage.calls _ _ l0_0 x3_1 true _ ?side1 ?side2 A11.out).mono ?_); (case side1 => exact Kd.C_below HR0_0.out (by repeat (first | (with_reducible first | exact HB.out | apply below_alloc | apply pw_below_drewN | apply below_drew1 | refine below_set ?_ GE245.out | refine below_set ?_ GE247.out) | exact HB.out))); (case side2 => exact HC0_0.out); rintro e w22 ⟨rfl, hb⟩; refine ⟨_, rfl, ?_⟩; have n0_ := Aside0.mk (blk_below (g := gb245) (o := .cells #[.slice (some ad246) l0_0.length c0_0] 24 (0, 0)) (by (with_reducible repeat (first | refine blk_drewN ?_ _ | refine blk_drew ?_ | refine blk_alloc ?_ _)); refine blk_far ?_ NB245_247.out _; (with_reducible repeat (first | refine blk_drewN ?_ _ | refine blk_drew ?_ | refine blk_alloc ?_ _)); refine blk_far ?_ NB245_247.out _; (with_reducible repeat (first | refine blk_drewN ?_ _ | refine blk_drew ?_ | refine blk_alloc ?_ _)); refine blk_far ?_ NB245_247.out _; (with_reducible repeat (first | refine blk_drewN ?_ _ | refine blk_drew ?_ | refine blk_alloc ?_ _)); exact BK245.out) hb); have n1_ := Aside0.mk (blk_below (g := gb247) (o := .cells #[.slice A246_0 ((rd_T30 l0_0 x3_1).f0).length c246_0, .slice A246_1 ((rd_T30 l0_0 x3_1).f1).length c246_1, .slice A246_2 ((rd_T30 l0_0 x3_1).f2).length c246_2] 30 (0, 0)) (by (with_reducible repeat (first | refine blk_drewN ?_ _ | refine blk_drew ?_ | refine blk_alloc ?_ _)); refine blk_put (cs := #[.slice A246_0 ((rd_T30 l0_0 x3_1).f0).length c246_0, .slice A246_1 ((rd_T30 l0_0 x3_1).f1).length c246_1, .slice none 0 0]) ?_ 2 _ rfl; (with_reducible repeat (first | refine blk_drewN ?_ _ | refine blk_drew ?_ | refine blk_alloc ?_ _)); refine blk_put (cs := #[.slice A246_0 ((rd_T30 l0_0 x3_1).f0).length c246_0, .slice none 0 0, .slice none 0 0]) ?_ 1 _ rfl; (with_reducible repeat (first | refine blk_drewN ?_ _ | refine blk_drew ?_ | refine blk_alloc ?_ _)); refine blk_put (cs := #[.slice none 0 0, .slice none 0 0, .slice none 0 0]) ?_ 0 _ rfl; (with_reducible repeat (first | refine blk_drewN ?_ _ | refine blk_drew ?_ | refine blk_alloc ?_ _)); exact BK247.out) hb); have n2_ := Aside0.mk (below_step (by repeat (first | (with_reducible first | exact HB.out | apply below_alloc | apply pw_below_drewN | apply below_drew1 | refine below_set ?_ GE245.out | refine below_set ?_ GE247.out) | exact HB.out)) hb); clear BK245; clear BK247; clear HB; have BK245 := n0_; have BK247 := n1_; have HB := n2_; clear n0_ n1_ n2_; (try clear hb); (try clear hb2); (try clear hk); (try clear hi); have hcz23_0 : w22.cell? ⟨gb245, 0, none⟩ = some (.slice (some ad246) l0_0.length c0_0) := (blk_cell BK245.out 0).trans rfl; have hfz23_0 := blk_frozen BK245.out 0; have hcz24_0 : w22.cell? ⟨gb247, 0, none⟩ = some (.slice A246_0 ((rd_T30 l0_0 x3_1).f0).length c246_0) := (blk_cell BK247.out 0).trans rfl; have hcz24_1 : w22.cell? ⟨gb247, 1, none⟩ = some (.slice A246_1 ((rd_T30 l0_0 x3_1).f1).length c246_1) := (blk_cell BK247.out 1).trans rfl; have hcz24_2 : w22.cell? ⟨gb247, 2, none⟩ = some (.slice A246_2 ((rd_T30 l0_0 x3_1).f2).length c246_2) := (blk_cell BK247.out 2).trans rfl; have hfz24_0 := blk_frozen BK247.out 0; have hfz24_1 := blk_frozen BK247.out 1; have hfz24_2 := blk_frozen BK247.out 2) | ((with_reducible refine gate_callee (f := 31) rfl ?_); refine goesL_ (some 31) rfl rfl Try.func31 (by kernel_rfl) rfl #[.agg #[.slice (some ad246) l0_0.length c0_0], .agg #[.slice A246_0 ((rd_T30 l0_0 x3_1).f0).length c246_0, .slice A246_1 ((rd_T30 l0_0 x3_1).f1).length c246_1, .slice A246_2 ((rd_T30 l0_0 x3_1).f2).length c246_2]] rfl (by (try simp only [List.map_toArray, List.map_cons, List.map_nil]); first | done | rfl | (simp only [List.length_drop, List.length_take]; rfl)) ?_; (with_reducible refine (cartoucheref13_dec.calls _ _ l0_0 _ _ ((rd_T30 l0_0 x3_1).f0) _ _ ((rd_T30 l0_0 x3_1).f1) _ _ ((rd_T30 l0_0 x3_1).f2) true _ ?side1 ?side2 ?side3 ?side4 ?side5 ?side6 ?side7 ?side8 A13.out).mono ?_); (case side1 => repeat (first | exact (Kd.C_below HR0_0.out HB.out) | (with_reducible refine Kd.C_alloc ?_ _) | (with_reducible refine Kd.C_drewN ?_ _) | (with_reducible refine Kd.C_drew ?_))); (case side2 => exact HC0_0.out); (case side3 => repeat (first | exact (Kd.C_below HR246_0.out HB.out) | (with_reducible refine Kd.C_alloc ?_ _) | (with_reducible refine Kd.C_drewN ?_ _) | (with_reducible refine Kd.C_drew ?_))); (case side4 => exact HC246_0.out); (case side5 => repeat (first | exact (Kd.C_below HR246_1.out HB.out) | (with_reducible refine Kd.C_alloc ?_ _) | (with_reducible refine Kd.C_drewN ?_ _) | (with_reducible refine Kd.C_drew ?_))); (case side6 => exact HC246_1.out); (case side7 => repeat (first | exact (Kd.C_below HR246_2.out HB.out) | (with_reducible refine Kd.C_alloc ?_ _) | (with_reducible refine Kd.C_drewN ?_ _) | (with_reducible refine Kd.C_drew ?_))); (case side8 => exact HC246_2.out); rintro e w25 ⟨rfl, hb⟩; refine ⟨_, rfl, ?_⟩; have n0_ := Aside0.mk (blk_below (g := gb245) (o := .cells #[.slice (some ad246) l0_0.length c0_0] 24 (0, 0)) (by (with_reducible repeat (first | refine blk_drewN ?_ _ | refine blk_drew ?_ | refine blk_alloc ?_ _)); exact BK245.out) hb); have n1_ := Aside0.mk (blk_below (g := gb247) (o := .cells #[.slice A246_0 ((rd_T30 l0_0 x3_1).f0).length c246_0, .slice A246_1 ((rd_T30 l0_0 x3_1).f1).length c246_1, .slice A246_2 ((rd_T30 l0_0 x3_1).f2).length c246_2] 30 (0, 0)) (by (with_reducible repeat (first | refine blk_drewN ?_ _ | refine blk_drew ?_ | refine blk_alloc ?_ _)); exact BK247.out) hb); have n2_ := Aside0.mk (below_step (by repeat (first | (with_reducible first | exact HB.out | apply below_alloc | apply pw_below_drewN | apply below_drew1 | refine below_set ?_ GE245.out | refine below_set ?_ GE247.out) | exact HB.out)) hb); clear BK245; clear BK247; clear HB; have BK245 := n0_; have BK247 := n1_; have HB := n2_; clear n0_ n1_ n2_; (try clear hb); (try clear hb2); (try clear hk); (try clear hi); have hcz26_0 : w25.cell? ⟨gb245, 0, none⟩ = some (.slice (some ad246) l0_0.length c0_0) := (blk_cell BK245.out 0).trans rfl; have hfz26_0 := blk_frozen BK245.out 0; have hcz27_0 : w25.cell? ⟨gb247, 0, none⟩ = some (.slice A246_0 ((rd_T30 l0_0 x3_1).f0).length c246_0) := (blk_cell BK247.out 0).trans rfl; have hcz27_1 : w25.cell? ⟨gb247, 1, none⟩ = some (.slice A246_1 ((rd_T30 l0_0 x3_1).f1).length c246_1) := (blk_cell BK247.out 1).trans rfl; have hcz27_2 : w25.cell? ⟨gb247, 2, none⟩ = some (.slice A246_2 ((rd_T30 l0_0 x3_1).f2).length c246_2) := (blk_cell BK247.out 2).trans rfl; have hfz27_0 := blk_frozen BK247.out 0; have hfz27_1 := blk_frozen BK247.out 1; have hfz27_2 := blk_frozen BK247.out 2) | (go_at_call 32; (with_reducible refine (cartoucheref13_enc.calls k1 _ _ l0_0 _ _ ((rd_T30 l0_0 x3_1).f0) _ _ ((rd_T30 l0_0 x3_1).f1) _ _ ((rd_T30 l0_0 x3_1).f2) true _ ?side1 ?side2 ?side3 ?side4 ?side5 ?side6 ?side7 ?side8 A15.out).mono ?_); (case side1 => repeat (first | exact (Kd.C_below HR0_0.out HB.out) | (with_reducible refine Kd.C_alloc ?_ _) | (with_reducible refine Kd.C_drewN ?_ _) | (with_reducible refine Kd.C_drew ?_))); (case side2 => exact HC0_0.out); (case side3 => repeat (first | exact (Kd.C_below HR246_0.out HB.out) | (with_reducible refine Kd.C_alloc ?_ _) | (with_reducible refine Kd.C_drewN ?_ _) | (with_reducible refine Kd.C_drew ?_))); (case side4 => exact HC246_0.out); (case side5 => repeat (first | exact (Kd.C_below HR246_1.out HB.out) | (with_reducible refine Kd.C_alloc ?_ _) | (with_reducible refine Kd.C_drewN ?_ _) | (with_reducible refine Kd.C_drew ?_))); (case side6 => exact HC246_1.out); (case side7 => repeat (first | exact (Kd.C_below HR246_2.out HB.out) | (with_reducible refine Kd.C_alloc ?_ _) | (with_reducible refine Kd.C_drewN ?_ _) | (with_reducible refine Kd.C_drew ?_))); (case side8 => exact HC246_2.out); rintro e w28 ⟨rfl, hb⟩; have n0_ := Aside0.mk (blk_below (g := gb245) (o := .cells #[.slice (some ad246) l0_0.length c0_0] 24 (0, 0)) (by (with_reducible repeat (first | refine blk_drewN ?_ _ | refine blk_drew ?_ | refine blk_alloc ?_ _)); exact BK245.out) hb); have n1_ := Aside0.mk (blk_below (g := gb247) (o := .cells #[.slice A246_0 ((rd_T30 l0_0 x3_1).f0).length c246_0, .slice A246_1 ((rd_T30 l0_0 x3_1).f1).length c246_1, .slice A246_2 ((rd_T30 l0_0 x3_1).f2).length c246_2] 30 (0, 0)) (by (with_reducible repeat (first | refine blk_drewN ?_ _ | refine blk_drew ?_ | refine blk_alloc ?_ _)); exact BK247.out) hb); have n2_ := Aside0.mk (below_step (by repeat (first | (with_reducible first | exact HB.out | apply below_alloc | apply pw_below_drewN | apply below_drew1 | refine below_set ?_ GE245.out | refine below_set ?_ GE247.out) | exact HB.out)) hb); clear BK245; clear BK247; clear HB; have BK245 := n0_; have BK247 := n1_; have HB := n2_; clear n0_ n1_ n2_; (try clear hb); (try clear hb2); (try clear hk); (try clear hi)))
          go_roundg k1
          case measure => have := HK1.out; omega
          case rel => exact ⟨(wrap64 (x3_1 + 1)), (by first | rfl | (simp; done) | (simp [*]; done)), H', ⟨by have := HK1.out; omega⟩, ⟨by (with_reducible repeat (first | refine blk_drewN ?_ _ | refine blk_drew ?_ | refine blk_alloc ?_ _)); exact BK245.out⟩, ⟨by repeat (first | (with_reducible first | exact HB.out | apply below_alloc | apply pw_below_drewN | apply below_drew1 | refine below_set ?_ GE245.out | refine below_set ?_ GE247.out) | exact HB.out)⟩⟩
         ·replace c16 := Bool.eq_false_iff.mpr c16
          subst c16
          have H1 : (some false) = some r := by rw [if_neg (show ¬ (false = true) by decide)] at H; exact H
          clear H
          have H := H1
          clear H1
          obtain rfl := Option.some.inj H
          have hcz29_0 : wr.cell? ⟨gb245, 0, none⟩ = some (.slice A0_0 l0_0.length c0_0) := (blk_cell BK245.out 0).trans rfl
          have hfz29_0 := blk_frozen BK245.out 0
          have p246 : 0 ≤ (x3_1 : Int) := of_decide_eq_true (by first | (with_reducible assumption) | assumption)
          have q246 : x3_1 < (l0_0.length : Int) := of_decide_eq_true (by first | (with_reducible assumption) | assumption)
          obtain ⟨ad246, A246_0, c246_0, A246_1, c246_1, A246_2, c246_2, e246, hx246_0, hx246_1, hx246_2, hl246_0, hi246_0, hl246_1, hi246_1, hl246_2, hi246_2⟩ := at_T30 HR0_0.out x3_1 p246 q246
          cases e246
          replace hx246_0 := (HB.out.cell (World.block_lt_of_cell? w _ hx246_0)).trans hx246_0
          replace hx246_1 := (HB.out.cell (World.block_lt_of_cell? w _ hx246_1)).trans hx246_1
          replace hx246_2 := (HB.out.cell (World.block_lt_of_cell? w _ hx246_2)).trans hx246_2
          have HR246_0 := Aside0.mk hi246_0
          have HC246_0 := Aside0.mk hl246_0
          clear hi246_0 hl246_0
          have HR246_1 := Aside0.mk hi246_1
          have HC246_1 := Aside0.mk hl246_1
          clear hi246_1 hl246_1
          have HR246_2 := Aside0.mk hi246_2
          have HC246_2 := Aside0.mk hl246_2
          clear hi246_2 hl246_2
          replace p246 := eq_true p246
          replace q246 := eq_true q246
          go_wp2_with (first | ((with_reducible refine gate_dst (N := 4) rfl ?_); (try (refine gate_guard (by rfl) ?_; dsimp only)); refine box_event ?hg (N := 4) ?hd (cs := #[.slice none 0 0, .slice none 0 0, .slice none 0 0]) (t := 30) ?hr ?_; (case hd => rfl); (case hg => rfl); (case hr => first | (go_simp; done) | (go_simp; rfl)); intro gb247 hg w30 hbox hb; have n0_ := Aside0.mk (blk_below (g := gb245) (o := .cells #[.slice (some ad246) l0_0.length c0_0] 24 (0, 0)) (by (with_reducible repeat (first | refine blk_drewN ?_ _ | refine blk_drew ?_ | refine blk_alloc ?_ _)); exact BK245.out) hb); have n1_ := Aside0.mk (below_step (by repeat (first | (with_reducible first | exact HB.out | apply below_alloc | apply pw_below_drewN | apply below_drew1 | refine below_set ?_ GE245.out) | exact HB.out)) hb); have n2_ := Aside0.mk (hbox); have n3_ := Aside0.mk ((by rw [hg]; exact (below_size (by repeat (first | (with_reducible first | exact HB.out | apply below_alloc | apply pw_below_drewN | apply below_drew1 | refine below_set ?_ GE245.out) | exact HB.out))) : w.heap.size ≤ gb247)); have n4_ := Aside0.mk ((by rw [hg]; exact (below_size (by repeat (first | (with_reducible first | exact HB.out | apply below_alloc | apply pw_below_drewN | apply below_drew1 | refine below_set ?_ GE245.out) | exact HB.out))) : w.heap.size ≤ gb247)); have n5_ := Aside0.mk ((by rw [hg]; exact Nat.ne_of_lt (blk_lt (g := gb245) (o := .cells #[.slice (some ad246) l0_0.length c0_0] 24 (0, 0)) (by (with_reducible repeat (first | refine blk_drewN ?_ _ | refine blk_drew ?_ | refine blk_alloc ?_ _)); exact BK245.out)) : gb245 ≠ gb247)); have n6_ := Aside0.mk ((by rw [hg]; exact Nat.ne_of_gt (blk_lt (g := gb245) (o := .cells #[.slice (some ad246) l0_0.length c0_0] 24 (0, 0)) (by (with_reducible repeat (first | refine blk_drewN ?_ _ | refine blk_drew ?_ | refine blk_alloc ?_ _)); exact BK245.out)) : gb247 ≠ gb245)); clear BK245; clear HB; have BK245 := n0_; have HB := n1_; have BK247 := n2_; have GW247 := n3_; have GE247 := n4_; have NB245_247 := n5_; have NB247_245 := n6_; clear n0_ n1_ n2_ n3_ n4_ n5_ n6_; clear hb hbox hg; have hnb31 := NB247_245.out; have hnc31 := NB245_247.out; have hcz32_0 : w30.cell? ⟨gb247, 0, none⟩ = some (.slice none 0 0) := (blk_cell BK247.out 0).trans rfl; have hcz32_1 : w30.cell? ⟨gb247, 1, none⟩ = some (.slice none 0 0) := (blk_cell BK247.out 1).trans rfl; have hcz32_2 : w30.cell? ⟨gb247, 2, none⟩ = some (.slice none 0 0) := (blk_cell BK247.out 2).trans rfl; have hfz32_0 := blk_frozen BK247.out 0; have hfz32_1 := blk_frozen BK247.out 1; have hfz32_2 := blk_frozen BK247.out 2) | ((with_reducible refine gate_callee (f := 29) rfl ?_); refine goesL_ (some 24) rfl rfl Try.func29 (by kernel_rfl) rfl #[.slice A246_2 ((rd_T30 l0_0 x3_1).f2).length c246_2] rfl (by (try simp only [List.map_toArray, List.map_cons, List.map_nil]); first | done | rfl | (simp only [List.length_drop, List.length_take]; rfl)) ?_; (with_reducible refine (cartoucheref13_rising.calls k1 _ _ ((rd_T30 l0_0 x3_1).f2) true _ ?side1 ?side2 A9.out).mono ?_); (case side1 => exact Kd.C_below HR246_2.out (by repeat (first | (with_reducible first | exact HB.out | apply below_alloc | apply pw_below_drewN | apply below_drew1 | refine below_set ?_ GE245.out | refine below_set ?_ GE247.out) | exact HB.out))); (case side2 => exact HC246_2.out); rintro e w' ⟨rfl, ⟨nd, rfl⟩⟩; refine ⟨_, rfl, ?_⟩; have hcz33_0 : w30.cell? ⟨gb245, 0, none⟩ = some (.slice (some ad246) l0_0.length c0_0) := (blk_cell BK245.out 0).trans rfl; have hfz33_0 := blk_frozen BK245.out 0) | ((with_reducible refine gate_callee (f := 30) rfl ?_); refine goesL_ (some 28) rfl rfl Try.func30 (by kernel_rfl) rfl #[.agg #[.slice (some ad246) l0_0.length c0_0], .int .i64 x3_1] rfl (by (try simp only [List.map_toArray, List.map_cons, List.map_nil]); first | done | rfl | (simp only [List.length_drop, List.length_take]; rfl)) ?_; (with_reducible refine (cartoucheref13_isMessage.calls _ _ l0_0 x3_1 true _ ?side1 ?side2 A11.out).mono ?_); (case side1 => exact Kd.C_below HR0_0.out (by repeat (first | (with_reducible first | exact HB.out | apply below_alloc | apply pw_below_drewN | apply below_drew1 | refine below_set ?_ GE245.out | refine below_set ?_ GE247.out) | exact HB.out))); (case side2 => exact HC0_0.out); rintro e w34 ⟨rfl, hb⟩; refine ⟨_, rfl, ?_⟩; have n0_ := Aside0.mk (blk_below (g := gb245) (o := .cells #[.slice (some ad246) l0_0.length c0_0] 24 (0, 0)) (by (with_reducible repeat (first | refine blk_drewN ?_ _ | refine blk_drew ?_ | refine blk_alloc ?_ _)); refine blk_far ?_ NB245_247.out _; (with_reducible repeat (first | refine blk_drewN ?_ _ | refine blk_drew ?_ | refine blk_alloc ?_ _)); refine blk_far ?_ NB245_247.out _; (with_reducible repeat (first | refine blk_drewN ?_ _ | refine blk_drew ?_ | refine blk_alloc ?_ _)); refine blk_far ?_ NB245_247.out _; (with_reducible repeat (first | refine blk_drewN ?_ _ | refine blk_drew ?_ | refine blk_alloc ?_ _)); exact BK245.out) hb); have n1_ := Aside0.mk (blk_below (g := gb247) (o := .cells #[.slice A246_0 ((rd_T30 l0_0 x3_1).f0).length c246_0, .slice A246_1 ((rd_T30 l0_0 x3_1).f1).length c246_1, .slice A246_2 ((rd_T30 l0_0 x3_1).f2).length c246_2] 30 (0, 0)) (by (with_reducible repeat (first | refine blk_drewN ?_ _ | refine blk_drew ?_ | refine blk_alloc ?_ _)); refine blk_put (cs := #[.slice A246_0 ((rd_T30 l0_0 x3_1).f0).length c246_0, .slice A246_1 ((rd_T30 l0_0 x3_1).f1).length c246_1, .slice none 0 0]) ?_ 2 _ rfl; (with_reducible repeat (first | refine blk_drewN ?_ _ | refine blk_drew ?_ | refine blk_alloc ?_ _)); refine blk_put (cs := #[.slice A246_0 ((rd_T30 l0_0 x3_1).f0).length c246_0, .slice none 0 0, .slice none 0 0]) ?_ 1 _ rfl; (with_reducible repeat (first | refine blk_drewN ?_ _ | refine blk_drew ?_ | refine blk_alloc ?_ _)); refine blk_put (cs := #[.slice none 0 0, .slice none 0 0, .slice none 0 0]) ?_ 0 _ rfl; (with_reducible repeat (first | refine blk_drewN ?_ _ | refine blk_drew ?_ | refine blk_alloc ?_ _)); exact BK247.out) hb); have n2_ := Aside0.mk (below_step (by repeat (first | (with_reducible first | exact HB.out | apply below_alloc | apply pw_below_drewN | apply below_drew1 | refine below_set ?_ GE245.out | refine below_set ?_ GE247.out) | exact HB.out)) hb); clear BK245; clear BK247; clear HB; have BK245 := n0_; have BK247 := n1_; have HB := n2_; clear n0_ n1_ n2_; (try clear hb); (try clear hb2); (try clear hk); (try clear hi); have hcz35_0 : w34.cell? ⟨gb245, 0, none⟩ = some (.slice (some ad246) l0_0.length c0_0) := (blk_cell BK245.out 0).trans rfl; have hfz35_0 := blk_frozen BK245.out 0; have hcz36_0 : w34.cell? ⟨gb247, 0, none⟩ = some (.slice A246_0 ((rd_T30 l0_0 x3_1).f0).length c246_0) := (blk_cell BK247.out 0).trans rfl; have hcz36_1 : w34.cell? ⟨gb247, 1, none⟩ = some (.slice A246_1 ((rd_T30 l0_0 x3_1).f1).length c246_1) := (blk_cell BK247.out 1).trans rfl; have hcz36_2 : w34.cell? ⟨gb247, 2, none⟩ = some (.slice A246_2 ((rd_T30 l0_0 x3_1).f2).length c246_2) := (blk_cell BK247.out 2).trans rfl; have hfz36_0 := blk_frozen BK247.out 0; have hfz36_1 := blk_frozen BK247.out 1; have hfz36_2 := blk_frozen BK247.out 2) | ((with_reducible refine gate_callee (f := 31) rfl ?_); refine goesL_ (some 31) rfl rfl Try.func31 (by kernel_rfl) rfl #[.agg #[.slice (some ad246) l0_0.length c0_0], .agg #[.slice A246_0 ((rd_T30 l0_0 x3_1).f0).length c246_0, .slice A246_1 ((rd_T30 l0_0 x3_1).f1).length c246_1, .slice A246_2 ((rd_T30 l0_0 x3_1).f2).length c246_2]] rfl (by (try simp only [List.map_toArray, List.map_cons, List.map_nil]); first | done | rfl | (simp only [List.length_drop, List.length_take]; rfl)) ?_; (with_reducible refine (cartoucheref13_dec.calls _ _ l0_0 _ _ ((rd_T30 l0_0 x3_1).f0) _ _ ((rd_T30 l0_0 x3_1).f1) _ _ ((rd_T30 l0_0 x3_1).f2) true _ ?side1 ?side2 ?side3 ?side4 ?side5 ?side6 ?side7 ?side8 A13.out).mono ?_); (case side1 => repeat (first | exact (Kd.C_below HR0_0.out HB.out) | (with_reducible refine Kd.C_alloc ?_ _) | (with_reducible refine Kd.C_drewN ?_ _) | (with_reducible refine Kd.C_drew ?_))); (case side2 => exact HC0_0.out); (case side3 => repeat (first | exact (Kd.C_below HR246_0.out HB.out) | (with_reducible refine Kd.C_alloc ?_ _) | (with_reducible refine Kd.C_drewN ?_ _) | (with_reducible refine Kd.C_drew ?_))); (case side4 => exact HC246_0.out); (case side5 => repeat (first | exact (Kd.C_below HR246_1.out HB.out) | (with_reducible refine Kd.C_alloc ?_ _) | (with_reducible refine Kd.C_drewN ?_ _) | (with_reducible refine Kd.C_drew ?_))); (case side6 => exact HC246_1.out); (case side7 => repeat (first | exact (Kd.C_below HR246_2.out HB.out) | (with_reducible refine Kd.C_alloc ?_ _) | (with_reducible refine Kd.C_drewN ?_ _) | (with_reducible refine Kd.C_drew ?_))); (case side8 => exact HC246_2.out); rintro e w37 ⟨rfl, hb⟩; refine ⟨_, rfl, ?_⟩; have n0_ := Aside0.mk (blk_below (g := gb245) (o := .cells #[.slice (some ad246) l0_0.length c0_0] 24 (0, 0)) (by (with_reducible repeat (first | refine blk_drewN ?_ _ | refine blk_drew ?_ | refine blk_alloc ?_ _)); exact BK245.out) hb); have n1_ := Aside0.mk (blk_below (g := gb247) (o := .cells #[.slice A246_0 ((rd_T30 l0_0 x3_1).f0).length c246_0, .slice A246_1 ((rd_T30 l0_0 x3_1).f1).length c246_1, .slice A246_2 ((rd_T30 l0_0 x3_1).f2).length c246_2] 30 (0, 0)) (by (with_reducible repeat (first | refine blk_drewN ?_ _ | refine blk_drew ?_ | refine blk_alloc ?_ _)); exact BK247.out) hb); have n2_ := Aside0.mk (below_step (by repeat (first | (with_reducible first | exact HB.out | apply below_alloc | apply pw_below_drewN | apply below_drew1 | refine below_set ?_ GE245.out | refine below_set ?_ GE247.out) | exact HB.out)) hb); clear BK245; clear BK247; clear HB; have BK245 := n0_; have BK247 := n1_; have HB := n2_; clear n0_ n1_ n2_; (try clear hb); (try clear hb2); (try clear hk); (try clear hi); have hcz38_0 : w37.cell? ⟨gb245, 0, none⟩ = some (.slice (some ad246) l0_0.length c0_0) := (blk_cell BK245.out 0).trans rfl; have hfz38_0 := blk_frozen BK245.out 0; have hcz39_0 : w37.cell? ⟨gb247, 0, none⟩ = some (.slice A246_0 ((rd_T30 l0_0 x3_1).f0).length c246_0) := (blk_cell BK247.out 0).trans rfl; have hcz39_1 : w37.cell? ⟨gb247, 1, none⟩ = some (.slice A246_1 ((rd_T30 l0_0 x3_1).f1).length c246_1) := (blk_cell BK247.out 1).trans rfl; have hcz39_2 : w37.cell? ⟨gb247, 2, none⟩ = some (.slice A246_2 ((rd_T30 l0_0 x3_1).f2).length c246_2) := (blk_cell BK247.out 2).trans rfl; have hfz39_0 := blk_frozen BK247.out 0; have hfz39_1 := blk_frozen BK247.out 1; have hfz39_2 := blk_frozen BK247.out 2) | (go_at_call 32; (with_reducible refine (cartoucheref13_enc.calls k1 _ _ l0_0 _ _ ((rd_T30 l0_0 x3_1).f0) _ _ ((rd_T30 l0_0 x3_1).f1) _ _ ((rd_T30 l0_0 x3_1).f2) false _ ?side1 ?side2 ?side3 ?side4 ?side5 ?side6 ?side7 ?side8 A15.out).mono ?_); (case side1 => repeat (first | exact (Kd.C_below HR0_0.out HB.out) | (with_reducible refine Kd.C_alloc ?_ _) | (with_reducible refine Kd.C_drewN ?_ _) | (with_reducible refine Kd.C_drew ?_))); (case side2 => exact HC0_0.out); (case side3 => repeat (first | exact (Kd.C_below HR246_0.out HB.out) | (with_reducible refine Kd.C_alloc ?_ _) | (with_reducible refine Kd.C_drewN ?_ _) | (with_reducible refine Kd.C_drew ?_))); (case side4 => exact HC246_0.out); (case side5 => repeat (first | exact (Kd.C_below HR246_1.out HB.out) | (with_reducible refine Kd.C_alloc ?_ _) | (with_reducible refine Kd.C_drewN ?_ _) | (with_reducible refine Kd.C_drew ?_))); (case side6 => exact HC246_1.out); (case side7 => repeat (first | exact (Kd.C_below HR246_2.out HB.out) | (with_reducible refine Kd.C_alloc ?_ _) | (with_reducible refine Kd.C_drewN ?_ _) | (with_reducible refine Kd.C_drew ?_))); (case side8 => exact HC246_2.out); rintro e w40 ⟨rfl, hb⟩; have n0_ := Aside0.mk (blk_below (g := gb245) (o := .cells #[.slice (some ad246) l0_0.length c0_0] 24 (0, 0)) (by (with_reducible repeat (first | refine blk_drewN ?_ _ | refine blk_drew ?_ | refine blk_alloc ?_ _)); exact BK245.out) hb); have n1_ := Aside0.mk (blk_below (g := gb247) (o := .cells #[.slice A246_0 ((rd_T30 l0_0 x3_1).f0).length c246_0, .slice A246_1 ((rd_T30 l0_0 x3_1).f1).length c246_1, .slice A246_2 ((rd_T30 l0_0 x3_1).f2).length c246_2] 30 (0, 0)) (by (with_reducible repeat (first | refine blk_drewN ?_ _ | refine blk_drew ?_ | refine blk_alloc ?_ _)); exact BK247.out) hb); have n2_ := Aside0.mk (below_step (by repeat (first | (with_reducible first | exact HB.out | apply below_alloc | apply pw_below_drewN | apply below_drew1 | refine below_set ?_ GE245.out | refine below_set ?_ GE247.out) | exact HB.out)) hb); clear BK245; clear BK247; clear HB; have BK245 := n0_; have BK247 := n1_; have HB := n2_; clear n0_ n1_ n2_; (try clear hb); (try clear hb2); (try clear hk); (try clear hi)))
          go_ret
          exact ⟨by first | rfl | (simp [errW_none, errW_some] <;> rfl) | (simp [*, errW_none, errW_some] <;> rfl), by repeat (first | (with_reducible first | exact HB.out | apply below_alloc | apply pw_below_drewN | apply below_drew1 | refine below_set ?_ GE245.out | refine below_set ?_ GE247.out) | exact HB.out)⟩
        ·replace c14 := Bool.eq_false_iff.mpr c14
         subst c14
         have H1 : (some false) = some r := by rw [if_neg (show ¬ (false = true) by decide)] at H; exact H
         clear H
         have H := H1
         clear H1
         obtain rfl := Option.some.inj H
         have hcz41_0 : wr.cell? ⟨gb245, 0, none⟩ = some (.slice A0_0 l0_0.length c0_0) := (blk_cell BK245.out 0).trans rfl
         have hfz41_0 := blk_frozen BK245.out 0
         have p246 : 0 ≤ (x3_1 : Int) := of_decide_eq_true (by first | (with_reducible assumption) | assumption)
         have q246 : x3_1 < (l0_0.length : Int) := of_decide_eq_true (by first | (with_reducible assumption) | assumption)
         obtain ⟨ad246, A246_0, c246_0, A246_1, c246_1, A246_2, c246_2, e246, hx246_0, hx246_1, hx246_2, hl246_0, hi246_0, hl246_1, hi246_1, hl246_2, hi246_2⟩ := at_T30 HR0_0.out x3_1 p246 q246
         cases e246
         replace hx246_0 := (HB.out.cell (World.block_lt_of_cell? w _ hx246_0)).trans hx246_0
         replace hx246_1 := (HB.out.cell (World.block_lt_of_cell? w _ hx246_1)).trans hx246_1
         replace hx246_2 := (HB.out.cell (World.block_lt_of_cell? w _ hx246_2)).trans hx246_2
         have HR246_0 := Aside0.mk hi246_0
         have HC246_0 := Aside0.mk hl246_0
         clear hi246_0 hl246_0
         have HR246_1 := Aside0.mk hi246_1
         have HC246_1 := Aside0.mk hl246_1
         clear hi246_1 hl246_1
         have HR246_2 := Aside0.mk hi246_2
         have HC246_2 := Aside0.mk hl246_2
         clear hi246_2 hl246_2
         replace p246 := eq_true p246
         replace q246 := eq_true q246
         go_wp2_with (first | ((with_reducible refine gate_dst (N := 4) rfl ?_); (try (refine gate_guard (by rfl) ?_; dsimp only)); refine box_event ?hg (N := 4) ?hd (cs := #[.slice none 0 0, .slice none 0 0, .slice none 0 0]) (t := 30) ?hr ?_; (case hd => rfl); (case hg => rfl); (case hr => first | (go_simp; done) | (go_simp; rfl)); intro gb247 hg w42 hbox hb; have n0_ := Aside0.mk (blk_below (g := gb245) (o := .cells #[.slice (some ad246) l0_0.length c0_0] 24 (0, 0)) (by (with_reducible repeat (first | refine blk_drewN ?_ _ | refine blk_drew ?_ | refine blk_alloc ?_ _)); exact BK245.out) hb); have n1_ := Aside0.mk (below_step (by repeat (first | (with_reducible first | exact HB.out | apply below_alloc | apply pw_below_drewN | apply below_drew1 | refine below_set ?_ GE245.out) | exact HB.out)) hb); have n2_ := Aside0.mk (hbox); have n3_ := Aside0.mk ((by rw [hg]; exact (below_size (by repeat (first | (with_reducible first | exact HB.out | apply below_alloc | apply pw_below_drewN | apply below_drew1 | refine below_set ?_ GE245.out) | exact HB.out))) : w.heap.size ≤ gb247)); have n4_ := Aside0.mk ((by rw [hg]; exact (below_size (by repeat (first | (with_reducible first | exact HB.out | apply below_alloc | apply pw_below_drewN | apply below_drew1 | refine below_set ?_ GE245.out) | exact HB.out))) : w.heap.size ≤ gb247)); have n5_ := Aside0.mk ((by rw [hg]; exact Nat.ne_of_lt (blk_lt (g := gb245) (o := .cells #[.slice (some ad246) l0_0.length c0_0] 24 (0, 0)) (by (with_reducible repeat (first | refine blk_drewN ?_ _ | refine blk_drew ?_ | refine blk_alloc ?_ _)); exact BK245.out)) : gb245 ≠ gb247)); have n6_ := Aside0.mk ((by rw [hg]; exact Nat.ne_of_gt (blk_lt (g := gb245) (o := .cells #[.slice (some ad246) l0_0.length c0_0] 24 (0, 0)) (by (with_reducible repeat (first | refine blk_drewN ?_ _ | refine blk_drew ?_ | refine blk_alloc ?_ _)); exact BK245.out)) : gb247 ≠ gb245)); clear BK245; clear HB; have BK245 := n0_; have HB := n1_; have BK247 := n2_; have GW247 := n3_; have GE247 := n4_; have NB245_247 := n5_; have NB247_245 := n6_; clear n0_ n1_ n2_ n3_ n4_ n5_ n6_; clear hb hbox hg; have hnb43 := NB247_245.out; have hnc43 := NB245_247.out; have hcz44_0 : w42.cell? ⟨gb247, 0, none⟩ = some (.slice none 0 0) := (blk_cell BK247.out 0).trans rfl; have hcz44_1 : w42.cell? ⟨gb247, 1, none⟩ = some (.slice none 0 0) := (blk_cell BK247.out 1).trans rfl; have hcz44_2 : w42.cell? ⟨gb247, 2, none⟩ = some (.slice none 0 0) := (blk_cell BK247.out 2).trans rfl; have hfz44_0 := blk_frozen BK247.out 0; have hfz44_1 := blk_frozen BK247.out 1; have hfz44_2 := blk_frozen BK247.out 2) | ((with_reducible refine gate_callee (f := 29) rfl ?_); refine goesL_ (some 24) rfl rfl Try.func29 (by kernel_rfl) rfl #[.slice A246_2 ((rd_T30 l0_0 x3_1).f2).length c246_2] rfl (by (try simp only [List.map_toArray, List.map_cons, List.map_nil]); first | done | rfl | (simp only [List.length_drop, List.length_take]; rfl)) ?_; (with_reducible refine (cartoucheref13_rising.calls k1 _ _ ((rd_T30 l0_0 x3_1).f2) true _ ?side1 ?side2 A9.out).mono ?_); (case side1 => exact Kd.C_below HR246_2.out (by repeat (first | (with_reducible first | exact HB.out | apply below_alloc | apply pw_below_drewN | apply below_drew1 | refine below_set ?_ GE245.out | refine below_set ?_ GE247.out) | exact HB.out))); (case side2 => exact HC246_2.out); rintro e w' ⟨rfl, ⟨nd, rfl⟩⟩; refine ⟨_, rfl, ?_⟩; have hcz45_0 : w42.cell? ⟨gb245, 0, none⟩ = some (.slice (some ad246) l0_0.length c0_0) := (blk_cell BK245.out 0).trans rfl; have hfz45_0 := blk_frozen BK245.out 0) | ((with_reducible refine gate_callee (f := 30) rfl ?_); refine goesL_ (some 28) rfl rfl Try.func30 (by kernel_rfl) rfl #[.agg #[.slice (some ad246) l0_0.length c0_0], .int .i64 x3_1] rfl (by (try simp only [List.map_toArray, List.map_cons, List.map_nil]); first | done | rfl | (simp only [List.length_drop, List.length_take]; rfl)) ?_; (with_reducible refine (cartoucheref13_isMessage.calls _ _ l0_0 x3_1 true _ ?side1 ?side2 A11.out).mono ?_); (case side1 => exact Kd.C_below HR0_0.out (by repeat (first | (with_reducible first | exact HB.out | apply below_alloc | apply pw_below_drewN | apply below_drew1 | refine below_set ?_ GE245.out | refine below_set ?_ GE247.out) | exact HB.out))); (case side2 => exact HC0_0.out); rintro e w46 ⟨rfl, hb⟩; refine ⟨_, rfl, ?_⟩; have n0_ := Aside0.mk (blk_below (g := gb245) (o := .cells #[.slice (some ad246) l0_0.length c0_0] 24 (0, 0)) (by (with_reducible repeat (first | refine blk_drewN ?_ _ | refine blk_drew ?_ | refine blk_alloc ?_ _)); refine blk_far ?_ NB245_247.out _; (with_reducible repeat (first | refine blk_drewN ?_ _ | refine blk_drew ?_ | refine blk_alloc ?_ _)); refine blk_far ?_ NB245_247.out _; (with_reducible repeat (first | refine blk_drewN ?_ _ | refine blk_drew ?_ | refine blk_alloc ?_ _)); refine blk_far ?_ NB245_247.out _; (with_reducible repeat (first | refine blk_drewN ?_ _ | refine blk_drew ?_ | refine blk_alloc ?_ _)); exact BK245.out) hb); have n1_ := Aside0.mk (blk_below (g := gb247) (o := .cells #[.slice A246_0 ((rd_T30 l0_0 x3_1).f0).length c246_0, .slice A246_1 ((rd_T30 l0_0 x3_1).f1).length c246_1, .slice A246_2 ((rd_T30 l0_0 x3_1).f2).length c246_2] 30 (0, 0)) (by (with_reducible repeat (first | refine blk_drewN ?_ _ | refine blk_drew ?_ | refine blk_alloc ?_ _)); refine blk_put (cs := #[.slice A246_0 ((rd_T30 l0_0 x3_1).f0).length c246_0, .slice A246_1 ((rd_T30 l0_0 x3_1).f1).length c246_1, .slice none 0 0]) ?_ 2 _ rfl; (with_reducible repeat (first | refine blk_drewN ?_ _ | refine blk_drew ?_ | refine blk_alloc ?_ _)); refine blk_put (cs := #[.slice A246_0 ((rd_T30 l0_0 x3_1).f0).length c246_0, .slice none 0 0, .slice none 0 0]) ?_ 1 _ rfl; (with_reducible repeat (first | refine blk_drewN ?_ _ | refine blk_drew ?_ | refine blk_alloc ?_ _)); refine blk_put (cs := #[.slice none 0 0, .slice none 0 0, .slice none 0 0]) ?_ 0 _ rfl; (with_reducible repeat (first | refine blk_drewN ?_ _ | refine blk_drew ?_ | refine blk_alloc ?_ _)); exact BK247.out) hb); have n2_ := Aside0.mk (below_step (by repeat (first | (with_reducible first | exact HB.out | apply below_alloc | apply pw_below_drewN | apply below_drew1 | refine below_set ?_ GE245.out | refine below_set ?_ GE247.out) | exact HB.out)) hb); clear BK245; clear BK247; clear HB; have BK245 := n0_; have BK247 := n1_; have HB := n2_; clear n0_ n1_ n2_; (try clear hb); (try clear hb2); (try clear hk); (try clear hi); have hcz47_0 : w46.cell? ⟨gb245, 0, none⟩ = some (.slice (some ad246) l0_0.length c0_0) := (blk_cell BK245.out 0).trans rfl; have hfz47_0 := blk_frozen BK245.out 0; have hcz48_0 : w46.cell? ⟨gb247, 0, none⟩ = some (.slice A246_0 ((rd_T30 l0_0 x3_1).f0).length c246_0) := (blk_cell BK247.out 0).trans rfl; have hcz48_1 : w46.cell? ⟨gb247, 1, none⟩ = some (.slice A246_1 ((rd_T30 l0_0 x3_1).f1).length c246_1) := (blk_cell BK247.out 1).trans rfl; have hcz48_2 : w46.cell? ⟨gb247, 2, none⟩ = some (.slice A246_2 ((rd_T30 l0_0 x3_1).f2).length c246_2) := (blk_cell BK247.out 2).trans rfl; have hfz48_0 := blk_frozen BK247.out 0; have hfz48_1 := blk_frozen BK247.out 1; have hfz48_2 := blk_frozen BK247.out 2) | ((with_reducible refine gate_callee (f := 31) rfl ?_); refine goesL_ (some 31) rfl rfl Try.func31 (by kernel_rfl) rfl #[.agg #[.slice (some ad246) l0_0.length c0_0], .agg #[.slice A246_0 ((rd_T30 l0_0 x3_1).f0).length c246_0, .slice A246_1 ((rd_T30 l0_0 x3_1).f1).length c246_1, .slice A246_2 ((rd_T30 l0_0 x3_1).f2).length c246_2]] rfl (by (try simp only [List.map_toArray, List.map_cons, List.map_nil]); first | done | rfl | (simp only [List.length_drop, List.length_take]; rfl)) ?_; (with_reducible refine (cartoucheref13_dec.calls _ _ l0_0 _ _ ((rd_T30 l0_0 x3_1).f0) _ _ ((rd_T30 l0_0 x3_1).f1) _ _ ((rd_T30 l0_0 x3_1).f2) false _ ?side1 ?side2 ?side3 ?side4 ?side5 ?side6 ?side7 ?side8 A13.out).mono ?_); (case side1 => repeat (first | exact (Kd.C_below HR0_0.out HB.out) | (with_reducible refine Kd.C_alloc ?_ _) | (with_reducible refine Kd.C_drewN ?_ _) | (with_reducible refine Kd.C_drew ?_))); (case side2 => exact HC0_0.out); (case side3 => repeat (first | exact (Kd.C_below HR246_0.out HB.out) | (with_reducible refine Kd.C_alloc ?_ _) | (with_reducible refine Kd.C_drewN ?_ _) | (with_reducible refine Kd.C_drew ?_))); (case side4 => exact HC246_0.out); (case side5 => repeat (first | exact (Kd.C_below HR246_1.out HB.out) | (with_reducible refine Kd.C_alloc ?_ _) | (with_reducible refine Kd.C_drewN ?_ _) | (with_reducible refine Kd.C_drew ?_))); (case side6 => exact HC246_1.out); (case side7 => repeat (first | exact (Kd.C_below HR246_2.out HB.out) | (with_reducible refine Kd.C_alloc ?_ _) | (with_reducible refine Kd.C_drewN ?_ _) | (with_reducible refine Kd.C_drew ?_))); (case side8 => exact HC246_2.out); rintro e w49 ⟨rfl, hb⟩; refine ⟨_, rfl, ?_⟩; have n0_ := Aside0.mk (blk_below (g := gb245) (o := .cells #[.slice (some ad246) l0_0.length c0_0] 24 (0, 0)) (by (with_reducible repeat (first | refine blk_drewN ?_ _ | refine blk_drew ?_ | refine blk_alloc ?_ _)); exact BK245.out) hb); have n1_ := Aside0.mk (blk_below (g := gb247) (o := .cells #[.slice A246_0 ((rd_T30 l0_0 x3_1).f0).length c246_0, .slice A246_1 ((rd_T30 l0_0 x3_1).f1).length c246_1, .slice A246_2 ((rd_T30 l0_0 x3_1).f2).length c246_2] 30 (0, 0)) (by (with_reducible repeat (first | refine blk_drewN ?_ _ | refine blk_drew ?_ | refine blk_alloc ?_ _)); exact BK247.out) hb); have n2_ := Aside0.mk (below_step (by repeat (first | (with_reducible first | exact HB.out | apply below_alloc | apply pw_below_drewN | apply below_drew1 | refine below_set ?_ GE245.out | refine below_set ?_ GE247.out) | exact HB.out)) hb); clear BK245; clear BK247; clear HB; have BK245 := n0_; have BK247 := n1_; have HB := n2_; clear n0_ n1_ n2_; (try clear hb); (try clear hb2); (try clear hk); (try clear hi)))
         go_ret
         exact ⟨by first | rfl | (simp [errW_none, errW_some] <;> rfl) | (simp [*, errW_none, errW_some] <;> rfl), by repeat (first | (with_reducible first | exact HB.out | apply below_alloc | apply pw_below_drewN | apply below_drew1 | refine below_set ?_ GE245.out | refine below_set ?_ GE247.out) | exact HB.out)⟩
       ·replace c12 := Bool.eq_false_iff.mpr c12
        subst c12
        have H1 : (if (((rd_T30 l0_0 x3_1).f2).length : Int) < 1 then (cartoucheref13_Valid.j1 k1 x3_1 true l0_0 ((rd_T30 l0_0 x3_1).f0) ((rd_T30 l0_0 x3_1).f1) ((rd_T30 l0_0 x3_1).f2)) else (cartoucheref13_Valid.j1 k1 x3_1 (decide ((((rd_T30 l0_0 x3_1).f2).length : Int) > 128)) l0_0 ((rd_T30 l0_0 x3_1).f0) ((rd_T30 l0_0 x3_1).f1) ((rd_T30 l0_0 x3_1).f2))) = some r := by rw [if_neg (show ¬ (false = true) by decide)] at H; exact H
        clear H
        have H := H1
        clear H1
        have HC50 := Aside0.mk H
        clear H
        have hcz51_0 : wr.cell? ⟨gb245, 0, none⟩ = some (.slice A0_0 l0_0.length c0_0) := (blk_cell BK245.out 0).trans rfl
        have hfz51_0 := blk_frozen BK245.out 0
        have p246 : 0 ≤ (x3_1 : Int) := of_decide_eq_true (by first | (with_reducible assumption) | assumption)
        have q246 : x3_1 < (l0_0.length : Int) := of_decide_eq_true (by first | (with_reducible assumption) | assumption)
        obtain ⟨ad246, A246_0, c246_0, A246_1, c246_1, A246_2, c246_2, e246, hx246_0, hx246_1, hx246_2, hl246_0, hi246_0, hl246_1, hi246_1, hl246_2, hi246_2⟩ := at_T30 HR0_0.out x3_1 p246 q246
        cases e246
        replace hx246_0 := (HB.out.cell (World.block_lt_of_cell? w _ hx246_0)).trans hx246_0
        replace hx246_1 := (HB.out.cell (World.block_lt_of_cell? w _ hx246_1)).trans hx246_1
        replace hx246_2 := (HB.out.cell (World.block_lt_of_cell? w _ hx246_2)).trans hx246_2
        have HR246_0 := Aside0.mk hi246_0
        have HC246_0 := Aside0.mk hl246_0
        clear hi246_0 hl246_0
        have HR246_1 := Aside0.mk hi246_1
        have HC246_1 := Aside0.mk hl246_1
        clear hi246_1 hl246_1
        have HR246_2 := Aside0.mk hi246_2
        have HC246_2 := Aside0.mk hl246_2
        clear hi246_2 hl246_2
        replace p246 := eq_true p246
        replace q246 := eq_true q246
        go_upto_region 12 with (first | ((with_reducible refine gate_dst (N := 4) rfl ?_); (try (refine gate_guard (by rfl) ?_; dsimp only)); refine box_event ?hg (N := 4) ?hd (cs := #[.slice none 0 0, .slice none 0 0, .slice none 0 0]) (t := 30) ?hr ?_; (case hd => rfl); (case hg => rfl); (case hr => first | (go_simp; done) | (go_simp; rfl)); intro gb247 hg w52 hbox hb; have n0_ := Aside0.mk (blk_below (g := gb245) (o := .cells #[.slice (some ad246) l0_0.length c0_0] 24 (0, 0)) (by (with_reducible repeat (first | refine blk_drewN ?_ _ | refine blk_drew ?_ | refine blk_alloc ?_ _)); exact BK245.out) hb); have n1_ := Aside0.mk (below_step (by repeat (first | (with_reducible first | exact HB.out | apply below_alloc | apply pw_below_drewN | apply below_drew1 | refine below_set ?_ GE245.out) | exact HB.out)) hb); have n2_ := Aside0.mk (hbox); have n3_ := Aside0.mk ((by rw [hg]; exact (below_size (by repeat (first | (with_reducible first | exact HB.out | apply below_alloc | apply pw_below_drewN | apply below_drew1 | refine below_set ?_ GE245.out) | exact HB.out))) : w.heap.size ≤ gb247)); have n4_ := Aside0.mk ((by rw [hg]; exact (below_size (by repeat (first | (with_reducible first | exact HB.out | apply below_alloc | apply pw_below_drewN | apply below_drew1 | refine below_set ?_ GE245.out) | exact HB.out))) : w.heap.size ≤ gb247)); have n5_ := Aside0.mk ((by rw [hg]; exact Nat.ne_of_lt (blk_lt (g := gb245) (o := .cells #[.slice (some ad246) l0_0.length c0_0] 24 (0, 0)) (by (with_reducible repeat (first | refine blk_drewN ?_ _ | refine blk_drew ?_ | refine blk_alloc ?_ _)); exact BK245.out)) : gb245 ≠ gb247)); have n6_ := Aside0.mk ((by rw [hg]; exact Nat.ne_of_gt (blk_lt (g := gb245) (o := .cells #[.slice (some ad246) l0_0.length c0_0] 24 (0, 0)) (by (with_reducible repeat (first | refine blk_drewN ?_ _ | refine blk_drew ?_ | refine blk_alloc ?_ _)); exact BK245.out)) : gb247 ≠ gb245)); clear BK245; clear HB; have BK245 := n0_; have HB := n1_; have BK247 := n2_; have GW247 := n3_; have GE247 := n4_; have NB245_247 := n5_; have NB247_245 := n6_; clear n0_ n1_ n2_ n3_ n4_ n5_ n6_; clear hb hbox hg; have hnb53 := NB247_245.out; have hnc53 := NB245_247.out; have hcz54_0 : w52.cell? ⟨gb247, 0, none⟩ = some (.slice none 0 0) := (blk_cell BK247.out 0).trans rfl; have hcz54_1 : w52.cell? ⟨gb247, 1, none⟩ = some (.slice none 0 0) := (blk_cell BK247.out 1).trans rfl; have hcz54_2 : w52.cell? ⟨gb247, 2, none⟩ = some (.slice none 0 0) := (blk_cell BK247.out 2).trans rfl; have hfz54_0 := blk_frozen BK247.out 0; have hfz54_1 := blk_frozen BK247.out 1; have hfz54_2 := blk_frozen BK247.out 2) | ((with_reducible refine gate_callee (f := 29) rfl ?_); refine goesL_ (some 24) rfl rfl Try.func29 (by kernel_rfl) rfl #[.slice A246_2 ((rd_T30 l0_0 x3_1).f2).length c246_2] rfl (by (try simp only [List.map_toArray, List.map_cons, List.map_nil]); first | done | rfl | (simp only [List.length_drop, List.length_take]; rfl)) ?_; (with_reducible refine (cartoucheref13_rising.calls k1 _ _ ((rd_T30 l0_0 x3_1).f2) true _ ?side1 ?side2 A9.out).mono ?_); (case side1 => exact Kd.C_below HR246_2.out (by repeat (first | (with_reducible first | exact HB.out | apply below_alloc | apply pw_below_drewN | apply below_drew1 | refine below_set ?_ GE245.out | refine below_set ?_ GE247.out) | exact HB.out))); (case side2 => exact HC246_2.out); rintro e w' ⟨rfl, ⟨nd, rfl⟩⟩; refine ⟨_, rfl, ?_⟩; have hcz55_0 : w52.cell? ⟨gb245, 0, none⟩ = some (.slice (some ad246) l0_0.length c0_0) := (blk_cell BK245.out 0).trans rfl; have hfz55_0 := blk_frozen BK245.out 0) | ((with_reducible refine gate_callee (f := 30) rfl ?_); refine goesL_ (some 28) rfl rfl Try.func30 (by kernel_rfl) rfl #[.agg #[.slice (some ad246) l0_0.length c0_0], .int .i64 x3_1] rfl (by (try simp only [List.map_toArray, List.map_cons, List.map_nil]); first | done | rfl | (simp only [List.length_drop, List.length_take]; rfl)) ?_; (with_reducible refine (cartoucheref13_isMessage.calls _ _ l0_0 x3_1 false _ ?side1 ?side2 A11.out).mono ?_); (case side1 => exact Kd.C_below HR0_0.out (by repeat (first | (with_reducible first | exact HB.out | apply below_alloc | apply pw_below_drewN | apply below_drew1 | refine below_set ?_ GE245.out | refine below_set ?_ GE247.out) | exact HB.out))); (case side2 => exact HC0_0.out); rintro e w56 ⟨rfl, hb⟩; refine ⟨_, rfl, ?_⟩; have n0_ := Aside0.mk (blk_below (g := gb245) (o := .cells #[.slice (some ad246) l0_0.length c0_0] 24 (0, 0)) (by (with_reducible repeat (first | refine blk_drewN ?_ _ | refine blk_drew ?_ | refine blk_alloc ?_ _)); refine blk_far ?_ NB245_247.out _; (with_reducible repeat (first | refine blk_drewN ?_ _ | refine blk_drew ?_ | refine blk_alloc ?_ _)); refine blk_far ?_ NB245_247.out _; (with_reducible repeat (first | refine blk_drewN ?_ _ | refine blk_drew ?_ | refine blk_alloc ?_ _)); refine blk_far ?_ NB245_247.out _; (with_reducible repeat (first | refine blk_drewN ?_ _ | refine blk_drew ?_ | refine blk_alloc ?_ _)); exact BK245.out) hb); have n1_ := Aside0.mk (blk_below (g := gb247) (o := .cells #[.slice A246_0 ((rd_T30 l0_0 x3_1).f0).length c246_0, .slice A246_1 ((rd_T30 l0_0 x3_1).f1).length c246_1, .slice A246_2 ((rd_T30 l0_0 x3_1).f2).length c246_2] 30 (0, 0)) (by (with_reducible repeat (first | refine blk_drewN ?_ _ | refine blk_drew ?_ | refine blk_alloc ?_ _)); refine blk_put (cs := #[.slice A246_0 ((rd_T30 l0_0 x3_1).f0).length c246_0, .slice A246_1 ((rd_T30 l0_0 x3_1).f1).length c246_1, .slice none 0 0]) ?_ 2 _ rfl; (with_reducible repeat (first | refine blk_drewN ?_ _ | refine blk_drew ?_ | refine blk_alloc ?_ _)); refine blk_put (cs := #[.slice A246_0 ((rd_T30 l0_0 x3_1).f0).length c246_0, .slice none 0 0, .slice none 0 0]) ?_ 1 _ rfl; (with_reducible repeat (first | refine blk_drewN ?_ _ | refine blk_drew ?_ | refine blk_alloc ?_ _)); refine blk_put (cs := #[.slice none 0 0, .slice none 0 0, .slice none 0 0]) ?_ 0 _ rfl; (with_reducible repeat (first | refine blk_drewN ?_ _ | refine blk_drew ?_ | refine blk_alloc ?_ _)); exact BK247.out) hb); have n2_ := Aside0.mk (below_step (by repeat (first | (with_reducible first | exact HB.out | apply below_alloc | apply pw_below_drewN | apply below_drew1 | refine below_set ?_ GE245.out | refine below_set ?_ GE247.out) | exact HB.out)) hb); clear BK245; clear BK247; clear HB; have BK245 := n0_; have BK247 := n1_; have HB := n2_; clear n0_ n1_ n2_; (try clear hb); (try clear hb2); (try clear hk); (try clear hi)))
        (try simp only [Act.put, List.setIfInBounds_toArray, List.set_cons_zero, List.set_cons_succ])
        go_cut [48] (fun v48 wc => ∃ (kq : Nat) (x48_49 : Bool), v48 = .bool x48_49 ∧ Aside0 (cartoucheref13_Valid.j1 kq x3_1 x48_49 l0_0 ((rd_T30 l0_0 x3_1).f0) ((rd_T30 l0_0 x3_1).f1) ((rd_T30 l0_0 x3_1).f2) = some r) ∧ Aside0 (kq ≤ k1) ∧ Aside0 (wc.heap[gb245]? = some (.cells #[(.slice (some ad246) l0_0.length c0_0)] 24 (0, 0))) ∧ Aside0 (wc.heap[gb247]? = some (.cells #[(.slice A246_0 ((rd_T30 l0_0 x3_1).f0).length c246_0), (.slice A246_1 ((rd_T30 l0_0 x3_1).f1).length c246_1), (.slice A246_2 ((rd_T30 l0_0 x3_1).f2).length c246_2)] 30 (0, 0))) ∧ Aside0 (Below w.heap.size w wc))
        case first =>
         have H := HC50.out
         clear HC50
         by_cases c57 : (((rd_T30 l0_0 x3_1).f2).length : Int) < 1
         ·rw [if_pos c57] at H
          have c57b0 : decide ((((rd_T30 l0_0 x3_1).f2).length : Int) < 1) = true := decide_eq_true c57
          have c57b1 : decide (((rd_T30 l0_0 x3_1).f2).length < 1) = true := decide_eq_true (by omega)
          clear c57
          (first | rw [c57b0] | (simp only [i64_w, i32_w]; rw [c57b0]) | skip)
          have H' := Aside0.mk H
          clear H
          have hnb58 := NB247_245.out
          have hnc58 := NB245_247.out
          have hcz59_0 : w56.cell? ⟨gb247, 0, none⟩ = some (.slice A246_0 ((rd_T30 l0_0 x3_1).f0).length c246_0) := (blk_cell BK247.out 0).trans rfl
          have hcz59_1 : w56.cell? ⟨gb247, 1, none⟩ = some (.slice A246_1 ((rd_T30 l0_0 x3_1).f1).length c246_1) := (blk_cell BK247.out 1).trans rfl
          have hcz59_2 : w56.cell? ⟨gb247, 2, none⟩ = some (.slice A246_2 ((rd_T30 l0_0 x3_1).f2).length c246_2) := (blk_cell BK247.out 2).trans rfl
          have hfz59_0 := blk_frozen BK247.out 0
          have hfz59_1 := blk_frozen BK247.out 1
          have hfz59_2 := blk_frozen BK247.out 2
          go_wp2
          go_meet
          case rel => exact ⟨_, (true), (by first | rfl | (simp; done) | (simp [*]; done)), H', ⟨by have := HK1.out; first | omega | exact Nat.le_refl _⟩, ⟨by (with_reducible repeat (first | refine blk_drewN ?_ _ | refine blk_drew ?_ | refine blk_alloc ?_ _)); exact BK245.out⟩, ⟨by (with_reducible repeat (first | refine blk_drewN ?_ _ | refine blk_drew ?_ | refine blk_alloc ?_ _)); exact BK247.out⟩, ⟨by repeat (first | (with_reducible first | exact HB.out | apply below_alloc | apply pw_below_drewN | apply below_drew1 | refine below_set ?_ GE245.out | refine below_set ?_ GE247.out) | exact HB.out)⟩⟩
         ·rw [if_neg c57] at H
          have c57b0 : decide ((((rd_T30 l0_0 x3_1).f2).length : Int) < 1) = false := decide_eq_false c57
          have c57b1 : decide (((rd_T30 l0_0 x3_1).f2).length < 1) = false := decide_eq_false (by omega)
          clear c57
          (first | rw [c57b0] | (simp only [i64_w, i32_w]; rw [c57b0]) | skip)
          have H' := Aside0.mk H
          clear H
          have hnb60 := NB247_245.out
          have hnc60 := NB245_247.out
          have hcz61_0 : w56.cell? ⟨gb247, 0, none⟩ = some (.slice A246_0 ((rd_T30 l0_0 x3_1).f0).length c246_0) := (blk_cell BK247.out 0).trans rfl
          have hcz61_1 : w56.cell? ⟨gb247, 1, none⟩ = some (.slice A246_1 ((rd_T30 l0_0 x3_1).f1).length c246_1) := (blk_cell BK247.out 1).trans rfl
          have hcz61_2 : w56.cell? ⟨gb247, 2, none⟩ = some (.slice A246_2 ((rd_T30 l0_0 x3_1).f2).length c246_2) := (blk_cell BK247.out 2).trans rfl
          have hfz61_0 := blk_frozen BK247.out 0
          have hfz61_1 := blk_frozen BK247.out 1
          have hfz61_2 := blk_frozen BK247.out 2
          go_wp2
          go_meet
          case rel => exact ⟨_, (decide ((((rd_T30 l0_0 x3_1).f2).length : Int) > 128)), (by first | rfl | (simp; done) | (simp [*]; done)), H', ⟨by have := HK1.out; first | omega | exact Nat.le_refl _⟩, ⟨by (with_reducible repeat (first | refine blk_drewN ?_ _ | refine blk_drew ?_ | refine blk_alloc ?_ _)); exact BK245.out⟩, ⟨by (with_reducible repeat (first | refine blk_drewN ?_ _ | refine blk_drew ?_ | refine blk_alloc ?_ _)); exact BK247.out⟩, ⟨by repeat (first | (with_reducible first | exact HB.out | apply below_alloc | apply pw_below_drewN | apply below_drew1 | refine below_set ?_ GE245.out | refine below_set ?_ GE247.out) | exact HB.out)⟩⟩
        case rest =>
         clear HC50
         try clear c1
         try clear c2
         try clear c2b0
         try clear c2b1
         try clear p2
         try clear q2
         try clear hx2
         try clear c3
         try clear c4
         try clear c5
         try clear c6
         try clear p6
         try clear c7
         try clear c7b0
         try clear c8
         try clear c8b0
         try clear c9
         try clear c10
         try clear c12
         try clear c14
         try clear c16
         try clear c19
         try clear c24
         try clear p24
         try clear q24
         try clear hx24
         try clear c29
         try clear c30
         try clear c31
         try clear c43
         try clear c53
         try clear c57
         try clear c57b0
         try clear c57b1
         try clear c58
         try clear c60
         try clear hcz17_0
         try clear hcz20_0
         try clear hcz20_1
         try clear hcz20_2
         try clear hcz21_0
         try clear hcz23_0
         try clear hcz24_0
         try clear hcz24_1
         try clear hcz24_2
         try clear hcz26_0
         try clear hcz27_0
         try clear hcz27_1
         try clear hcz27_2
         try clear hcz29_0
         try clear hcz32_0
         try clear hcz32_1
         try clear hcz32_2
         try clear hcz33_0
         try clear hcz35_0
         try clear hcz36_0
         try clear hcz36_1
         try clear hcz36_2
         try clear hcz38_0
         try clear hcz39_0
         try clear hcz39_1
         try clear hcz39_2
         try clear hcz41_0
         try clear hcz44_0
         try clear hcz44_1
         try clear hcz44_2
         try clear hcz45_0
         try clear hcz47_0
         try clear hcz48_0
         try clear hcz48_1
         try clear hcz48_2
         try clear hcz4_0
         try clear hcz51_0
         try clear hcz54_0
         try clear hcz54_1
         try clear hcz54_2
         try clear hcz55_0
         try clear hcz59_0
         try clear hcz59_1
         try clear hcz59_2
         try clear hcz61_0
         try clear hcz61_1
         try clear hcz61_2
         try clear hcz6_0
         try clear hfz17_0
         try clear hfz20_0
         try clear hfz20_1
         try clear hfz20_2
         try clear hfz21_0
         try clear hfz23_0
         try clear hfz24_0
         try clear hfz24_1
         try clear hfz24_2
         try clear hfz26_0
         try clear hfz27_0
         try clear hfz27_1
         try clear hfz27_2
         try clear hfz29_0
         try clear hfz32_0
         try clear hfz32_1
         try clear hfz32_2
         try clear hfz33_0
         try clear hfz35_0
         try clear hfz36_0
         try clear hfz36_1
         try clear hfz36_2
         try clear hfz38_0
         try clear hfz39_0
         try clear hfz39_1
         try clear hfz39_2
         try clear hfz41_0
         try clear hfz44_0
         try clear hfz44_1
         try clear hfz44_2
         try clear hfz45_0
         try clear hfz47_0
         try clear hfz48_0
         try clear hfz48_1
         try clear hfz48_2
         try clear hfz4_0
         try clear hfz51_0
         try clear hfz54_0
         try clear hfz54_1
         try clear hfz54_2
         try clear hfz55_0
         try clear hfz59_0
         try clear hfz59_1
         try clear hfz59_2
         try clear hfz61_0
         try clear hfz61_1
         try clear hfz61_2
         try clear hfz6_0
         try clear hx246_0
         try clear hx246_1
         try clear hx246_2
         try clear p2
         try clear p246
         try clear q246
         obtain ⟨kq, x48_49, rfl, HA, HJ49, BK245, BK247, HB⟩ := hcut
         cases kq with
         | zero => exact absurd HA.out (by simp [cartoucheref13_Valid.j1])
         | succ kj49 =>
          have H := HA.out
          clear HA
          simp only [cartoucheref13_Valid.j1] at H
          by_cases c62 : x48_49 = true
          ·subst c62
           have H1 : (some false) = some r := by rw [if_pos rfl] at H; exact H
           clear H
           have H := H1
           clear H1
           obtain rfl := Option.some.inj H
           go_wp2
           go_ret
           exact ⟨by first | rfl | (simp [errW_none, errW_some] <;> rfl) | (simp [*, errW_none, errW_some] <;> rfl), by repeat (first | (with_reducible first | exact HB.out | apply below_alloc | apply pw_below_drewN | apply below_drew1 | refine below_set ?_ GE245.out | refine below_set ?_ GE247.out) | exact HB.out)⟩
          ·replace c62 := Bool.eq_false_iff.mpr c62
           subst c62
           have H1 : (cartoucheref13_Valid.l1 kj49 x3_1 0 l0_0 ((rd_T30 l0_0 x3_1).f0) ((rd_T30 l0_0 x3_1).f1) ((rd_T30 l0_0 x3_1).f2)) = some r := by rw [if_neg (show ¬ (false = true) by decide)] at H; exact H
           clear H
           have H := H1
           clear H1
           have H' := Aside0.mk H
           clear H
           go_wp2
           go_loopg [5] kj49 (fun kq v5 w' => ∃ (x5_3 : Int), v5 = .int .i64 x5_3 ∧ Aside0 (cartoucheref13_Valid.l1 kq x3_1 x5_3 l0_0 ((rd_T30 l0_0 x3_1).f0) ((rd_T30 l0_0 x3_1).f1) ((rd_T30 l0_0 x3_1).f2) = some r) ∧ Aside0 (kq ≤ kj49) ∧ Aside0 (w'.heap[gb245]? = some (.cells #[(.slice (some ad246) l0_0.length c0_0)] 24 (0, 0))) ∧ Aside0 (w'.heap[gb247]? = some (.cells #[(.slice A246_0 ((rd_T30 l0_0 x3_1).f0).length c246_0), (.slice A246_1 ((rd_T30 l0_0 x3_1).f1).length c246_1), (.slice A246_2 ((rd_T30 l0_0 x3_1).f2).length c246_2)] 30 (0, 0))) ∧ Aside0 (Below w.heap.size w w'))
           case atStart => exact ⟨(0), (by first | rfl | (simp; done) | (simp [*]; done)), H', ⟨Nat.le_refl _⟩, ⟨by (with_reducible repeat (first | refine blk_drewN ?_ _ | refine blk_drew ?_ | refine blk_alloc ?_ _)); exact BK245.out⟩, ⟨by (with_reducible repeat (first | refine blk_drewN ?_ _ | refine blk_drew ?_ | refine blk_alloc ?_ _)); exact BK247.out⟩, ⟨by repeat (first | (with_reducible first | exact HB.out | apply below_alloc | apply pw_below_drewN | apply below_drew1 | refine below_set ?_ GE245.out | refine below_set ?_ GE247.out) | exact HB.out)⟩⟩
           case round =>
            clear H'
            try clear c1
            try clear c2
            try clear c2b0
            try clear c2b1
            try clear p2
            try clear q2
            try clear hx2
            try clear c3
            try clear c4
            try clear c5
            try clear c6
            try clear p6
            try clear c7
            try clear c7b0
            try clear c8
            try clear c8b0
            try clear c9
            try clear c10
            try clear c12
            try clear c14
            try clear c16
            try clear c19
            try clear c24
            try clear p24
            try clear q24
            try clear hx24
            try clear c29
            try clear c30
            try clear c31
            try clear c43
            try clear c53
            try clear c57
            try clear c57b0
            try clear c57b1
            try clear c58
            try clear c60
            try clear c62
            try clear hcz17_0
            try clear hcz20_0
            try clear hcz20_1
            try clear hcz20_2
            try clear hcz21_0
            try clear hcz23_0
            try clear hcz24_0
            try clear hcz24_1
            try clear hcz24_2
            try clear hcz26_0
            try clear hcz27_0
            try clear hcz27_1
            try clear hcz27_2
            try clear hcz29_0
            try clear hcz32_0
            try clear hcz32_1
            try clear hcz32_2
            try clear hcz33_0
            try clear hcz35_0
            try clear hcz36_0
            try clear hcz36_1
            try clear hcz36_2
            try clear hcz38_0
            try clear hcz39_0
            try clear hcz39_1
            try clear hcz39_2
            try clear hcz41_0
            try clear hcz44_0
            try clear hcz44_1
            try clear hcz44_2
            try clear hcz45_0
            try clear hcz47_0
            try clear hcz48_0
            try clear hcz48_1
            try clear hcz48_2
            try clear hcz4_0
            try clear hcz51_0
            try clear hcz54_0
            try clear hcz54_1
            try clear hcz54_2
            try clear hcz55_0
            try clear hcz59_0
            try clear hcz59_1
            try clear hcz59_2
            try clear hcz61_0
            try clear hcz61_1
            try clear hcz61_2
            try clear hcz6_0
            try clear hfz17_0
            try clear hfz20_0
            try clear hfz20_1
            try clear hfz20_2
            try clear hfz21_0
            try clear hfz23_0
            try clear hfz24_0
            try clear hfz24_1
            try clear hfz24_2
            try clear hfz26_0
            try clear hfz27_0
            try clear hfz27_1
            try clear hfz27_2
            try clear hfz29_0
            try clear hfz32_0
            try clear hfz32_1
            try clear hfz32_2
            try clear hfz33_0
            try clear hfz35_0
            try clear hfz36_0
            try clear hfz36_1
            try clear hfz36_2
            try clear hfz38_0
            try clear hfz39_0
            try clear hfz39_1
            try clear hfz39_2
            try clear hfz41_0
            try clear hfz44_0
            try clear hfz44_1
            try clear hfz44_2
            try clear hfz45_0
            try clear hfz47_0
            try clear hfz48_0
            try clear hfz48_1
            try clear hfz48_2
            try clear hfz4_0
            try clear hfz51_0
            try clear hfz54_0
            try clear hfz54_1
            try clear hfz54_2
            try clear hfz55_0
            try clear hfz59_0
            try clear hfz59_1
            try clear hfz59_2
            try clear hfz61_0
            try clear hfz61_1
            try clear hfz61_2
            try clear hfz6_0
            try clear hx246_0
            try clear hx246_1
            try clear hx246_2
            try clear p2
            try clear p24
            try clear p246
            try clear p6
            try clear q2
            try clear q24
            try clear q246
            obtain ⟨x5_3, rfl, HA, HK3, BK245, BK247, HB⟩ := hrel
            cases gk with
            | zero => exact absurd HA.out (by simp [cartoucheref13_Valid.l1])
            | succ k3 =>
             have H := HA.out
             clear HA
             simp only [cartoucheref13_Valid.l1] at H
             by_cases c63 : x5_3 < (((rd_T30 l0_0 x3_1).f2).length : Int)
             ·rw [if_pos c63] at H
              have c63b0 : decide (x5_3 < (((rd_T30 l0_0 x3_1).f2).length : Int)) = true := decide_eq_true c63
              clear c63
              by_cases c64 : 0 ≤ x5_3
              ·rw [if_pos c64] at H
               have c64b0 : decide (0 ≤ x5_3) = true := decide_eq_true c64
               clear c64
               by_cases c65 : ((rd_T37 ((rd_T30 l0_0 x3_1).f2) x5_3).f0) < 0
               ·rw [if_pos c65] at H
                have c65b0 : decide (((rd_T37 ((rd_T30 l0_0 x3_1).f2) x5_3).f0) < 0) = true := decide_eq_true c65
                clear c65
                obtain rfl := Option.some.inj H
                have hnb66 := NB247_245.out
                have hnc66 := NB245_247.out
                have hcz67_0 : wr.cell? ⟨gb247, 0, none⟩ = some (.slice A246_0 ((rd_T30 l0_0 x3_1).f0).length c246_0) := (blk_cell BK247.out 0).trans rfl
                have hcz67_1 : wr.cell? ⟨gb247, 1, none⟩ = some (.slice A246_1 ((rd_T30 l0_0 x3_1).f1).length c246_1) := (blk_cell BK247.out 1).trans rfl
                have hcz67_2 : wr.cell? ⟨gb247, 2, none⟩ = some (.slice A246_2 ((rd_T30 l0_0 x3_1).f2).length c246_2) := (blk_cell BK247.out 2).trans rfl
                have hfz67_0 := blk_frozen BK247.out 0
                have hfz67_1 := blk_frozen BK247.out 1
                have hfz67_2 := blk_frozen BK247.out 2
                have p252 : 0 ≤ (x5_3 : Int) := of_decide_eq_true (by first | (with_reducible assumption) | assumption)
                have q252 : x5_3 < (((rd_T30 l0_0 x3_1).f2).length : Int) := of_decide_eq_true (by first | (with_reducible assumption) | assumption)
                obtain ⟨ad252, e252, hx252_0, hx252_1⟩ := at_T37 HR246_2.out x5_3 p252 q252
                cases e252
                replace hx252_0 := (HB.out.cell (World.block_lt_of_cell? w _ hx252_0)).trans hx252_0
                replace hx252_1 := (HB.out.cell (World.block_lt_of_cell? w _ hx252_1)).trans hx252_1
                replace p252 := eq_true p252
                replace q252 := eq_true q252
                go_wp2
                go_ret
                exact ⟨by first | rfl | (simp [errW_none, errW_some] <;> rfl) | (simp [*, errW_none, errW_some] <;> rfl), by repeat (first | (with_reducible first | exact HB.out | apply below_alloc | apply pw_below_drewN | apply below_drew1 | refine below_set ?_ GE245.out | refine below_set ?_ GE247.out) | exact HB.out)⟩
               ·rw [if_neg c65] at H
                have c65b0 : decide (((rd_T37 ((rd_T30 l0_0 x3_1).f2) x5_3).f0) < 0) = false := decide_eq_false c65
                clear c65
                by_cases c68 : ((rd_T37 ((rd_T30 l0_0 x3_1).f2) x5_3).f0) ≥ 2147483648
                ·rw [if_pos c68] at H
                 have c68b0 : decide (2147483648 ≤ ((rd_T37 ((rd_T30 l0_0 x3_1).f2) x5_3).f0)) = true := decide_eq_true c68
                 clear c68
                 obtain rfl := Option.some.inj H
                 have hnb69 := NB247_245.out
                 have hnc69 := NB245_247.out
                 have hcz70_0 : wr.cell? ⟨gb247, 0, none⟩ = some (.slice A246_0 ((rd_T30 l0_0 x3_1).f0).length c246_0) := (blk_cell BK247.out 0).trans rfl
                 have hcz70_1 : wr.cell? ⟨gb247, 1, none⟩ = some (.slice A246_1 ((rd_T30 l0_0 x3_1).f1).length c246_1) := (blk_cell BK247.out 1).trans rfl
                 have hcz70_2 : wr.cell? ⟨gb247, 2, none⟩ = some (.slice A246_2 ((rd_T30 l0_0 x3_1).f2).length c246_2) := (blk_cell BK247.out 2).trans rfl
                 have hfz70_0 := blk_frozen BK247.out 0
                 have hfz70_1 := blk_frozen BK247.out 1
                 have hfz70_2 := blk_frozen BK247.out 2
                 have p252 : 0 ≤ (x5_3 : Int) := of_decide_eq_true (by first | (with_reducible assumption) | assumption)
                 have q252 : x5_3 < (((rd_T30 l0_0 x3_1).f2).length : Int) := of_decide_eq_true (by first | (with_reducible assumption) | assumption)
                 obtain ⟨ad252, e252, hx252_0, hx252_1⟩ := at_T37 HR246_2.out x5_3 p252 q252
                 cases e252
                 replace hx252_0 := (HB.out.cell (World.block_lt_of_cell? w _ hx252_0)).trans hx252_0
                 replace hx252_1 := (HB.out.cell (World.block_lt_of_cell? w _ hx252_1)).trans hx252_1
                 replace p252 := eq_true p252
                 replace q252 := eq_true q252
                 have p253 : 0 ≤ (x5_3 : Int) := of_decide_eq_true (by first | (with_reducible assumption) | assumption)
                 have q253 : x5_3 < (((rd_T30 l0_0 x3_1).f2).length : Int) := of_decide_eq_true (by first | (with_reducible assumption) | assumption)
                 obtain ⟨ad253, e253, hx253_0, hx253_1⟩ := at_T37 HR246_2.out x5_3 p253 q253
                 obtain rfl : ad252 = ad253 := (by injection e253)
                 replace hx253_0 := (HB.out.cell (World.block_lt_of_cell? w _ hx253_0)).trans hx253_0
                 replace hx253_1 := (HB.out.cell (World.block_lt_of_cell? w _ hx253_1)).trans hx253_1
                 replace p253 := eq_true p253
                 replace q253 := eq_true q253
                 go_wp2
                 go_ret
                 exact ⟨by first | rfl | (simp [errW_none, errW_some] <;> rfl) | (simp [*, errW_none, errW_some] <;> rfl), by repeat (first | (with_reducible first | exact HB.out | apply below_alloc | apply pw_below_drewN | apply below_drew1 | refine below_set ?_ GE245.out | refine below_set ?_ GE247.out) | exact HB.out)⟩
                ·rw [if_neg c68] at H
                 have c68b0 : decide (2147483648 ≤ ((rd_T37 ((rd_T30 l0_0 x3_1).f2) x5_3).f0)) = false := decide_eq_false c68
                 clear c68
                 by_cases c71 : ((rd_T37 ((rd_T30 l0_0 x3_1).f2) x5_3).f1) = 0
                 ·rw [if_pos c71] at H
                  have c71b0 : (((rd_T37 ((rd_T30 l0_0 x3_1).f2) x5_3).f1) == 0) = true := beq_iff_eq.mpr c71
                  have c71b1 : (((rd_T37 ((rd_T30 l0_0 x3_1).f2) x5_3).f1) != 0) = false := bne_eq_false_iff_eq.mpr c71
                  clear c71
                  have H' := Aside0.mk H
                  clear H
                  have hnb72 := NB247_245.out
                  have hnc72 := NB245_247.out
                  have hcz73_0 : wr.cell? ⟨gb247, 0, none⟩ = some (.slice A246_0 ((rd_T30 l0_0 x3_1).f0).length c246_0) := (blk_cell BK247.out 0).trans rfl
                  have hcz73_1 : wr.cell? ⟨gb247, 1, none⟩ = some (.slice A246_1 ((rd_T30 l0_0 x3_1).f1).length c246_1) := (blk_cell BK247.out 1).trans rfl
                  have hcz73_2 : wr.cell? ⟨gb247, 2, none⟩ = some (.slice A246_2 ((rd_T30 l0_0 x3_1).f2).length c246_2) := (blk_cell BK247.out 2).trans rfl
                  have hfz73_0 := blk_frozen BK247.out 0
                  have hfz73_1 := blk_frozen BK247.out 1
                  have hfz73_2 := blk_frozen BK247.out 2
                  have p252 : 0 ≤ (x5_3 : Int) := of_decide_eq_true (by first | (with_reducible assumption) | assumption)
                  have q252 : x5_3 < (((rd_T30 l0_0 x3_1).f2).length : Int) := of_decide_eq_true (by first | (with_reducible assumption) | assumption)
                  obtain ⟨ad252, e252, hx252_0, hx252_1⟩ := at_T37 HR246_2.out x5_3 p252 q252
                  cases e252
                  replace hx252_0 := (HB.out.cell (World.block_lt_of_cell? w _ hx252_0)).trans hx252_0
                  replace hx252_1 := (HB.out.cell (World.block_lt_of_cell? w _ hx252_1)).trans hx252_1
                  replace p252 := eq_true p252
                  replace q252 := eq_true q252
                  have p253 : 0 ≤ (x5_3 : Int) := of_decide_eq_true (by first | (with_reducible assumption) | assumption)
                  have q253 : x5_3 < (((rd_T30 l0_0 x3_1).f2).length : Int) := of_decide_eq_true (by first | (with_reducible assumption) | assumption)
                  obtain ⟨ad253, e253, hx253_0, hx253_1⟩ := at_T37 HR246_2.out x5_3 p253 q253
                  obtain rfl : ad252 = ad253 := (by injection e253)
                  replace hx253_0 := (HB.out.cell (World.block_lt_of_cell? w _ hx253_0)).trans hx253_0
                  replace hx253_1 := (HB.out.cell (World.block_lt_of_cell? w _ hx253_1)).trans hx253_1
                  replace p253 := eq_true p253
                  replace q253 := eq_true q253
                  have p254 : 0 ≤ (x5_3 : Int) := of_decide_eq_true (by first | (with_reducible assumption) | assumption)
                  have q254 : x5_3 < (((rd_T30 l0_0 x3_1).f2).length : Int) := of_decide_eq_true (by first | (with_reducible assumption) | assumption)
                  obtain ⟨ad254, e254, hx254_0, hx254_1⟩ := at_T37 HR246_2.out x5_3 p254 q254
                  obtain rfl : ad252 = ad254 := (by injection e254)
                  replace hx254_0 := (HB.out.cell (World.block_lt_of_cell? w _ hx254_0)).trans hx254_0
                  replace hx254_1 := (HB.out.cell (World.block_lt_of_cell? w _ hx254_1)).trans hx254_1
                  replace p254 := eq_true p254
                  replace q254 := eq_true q254
                  go_wp2
                  go_roundg k3
                  case measure => have := HK1.out; have := HJ49.out; have := HK3.out; omega
                  case rel => exact ⟨(wrap64 (x5_3 + 1)), (by first | rfl | (simp; done) | (simp [*]; done)), H', ⟨by have := HK1.out; have := HJ49.out; have := HK3.out; omega⟩, ⟨by (with_reducible repeat (first | refine blk_drewN ?_ _ | refine blk_drew ?_ | refine blk_alloc ?_ _)); exact BK245.out⟩, ⟨by (with_reducible repeat (first | refine blk_drewN ?_ _ | refine blk_drew ?_ | refine blk_alloc ?_ _)); exact BK247.out⟩, ⟨by repeat (first | (with_reducible first | exact HB.out | apply below_alloc | apply pw_below_drewN | apply below_drew1 | refine below_set ?_ GE245.out | refine below_set ?_ GE247.out) | exact HB.out)⟩⟩
                 ·rw [if_neg c71] at H
                  have c71b0 : (((rd_T37 ((rd_T30 l0_0 x3_1).f2) x5_3).f1) == 0) = false := beq_eq_false_iff_ne.mpr c71
                  have c71b1 : (((rd_T37 ((rd_T30 l0_0 x3_1).f2) x5_3).f1) != 0) = true := bne_iff_ne.mpr c71
                  obtain rfl := Option.some.inj H
                  have hnb74 := NB247_245.out
                  have hnc74 := NB245_247.out
                  have hcz75_0 : wr.cell? ⟨gb247, 0, none⟩ = some (.slice A246_0 ((rd_T30 l0_0 x3_1).f0).length c246_0) := (blk_cell BK247.out 0).trans rfl
                  have hcz75_1 : wr.cell? ⟨gb247, 1, none⟩ = some (.slice A246_1 ((rd_T30 l0_0 x3_1).f1).length c246_1) := (blk_cell BK247.out 1).trans rfl
                  have hcz75_2 : wr.cell? ⟨gb247, 2, none⟩ = some (.slice A246_2 ((rd_T30 l0_0 x3_1).f2).length c246_2) := (blk_cell BK247.out 2).trans rfl
                  have hfz75_0 := blk_frozen BK247.out 0
                  have hfz75_1 := blk_frozen BK247.out 1
                  have hfz75_2 := blk_frozen BK247.out 2
                  have p252 : 0 ≤ (x5_3 : Int) := of_decide_eq_true (by first | (with_reducible assumption) | assumption)
                  have q252 : x5_3 < (((rd_T30 l0_0 x3_1).f2).length : Int) := of_decide_eq_true (by first | (with_reducible assumption) | assumption)
                  obtain ⟨ad252, e252, hx252_0, hx252_1⟩ := at_T37 HR246_2.out x5_3 p252 q252
                  cases e252
                  replace hx252_0 := (HB.out.cell (World.block_lt_of_cell? w _ hx252_0)).trans hx252_0
                  replace hx252_1 := (HB.out.cell (World.block_lt_of_cell? w _ hx252_1)).trans hx252_1
                  replace p252 := eq_true p252
                  replace q252 := eq_true q252
                  have p253 : 0 ≤ (x5_3 : Int) := of_decide_eq_true (by first | (with_reducible assumption) | assumption)
                  have q253 : x5_3 < (((rd_T30 l0_0 x3_1).f2).length : Int) := of_decide_eq_true (by first | (with_reducible assumption) | assumption)
                  obtain ⟨ad253, e253, hx253_0, hx253_1⟩ := at_T37 HR246_2.out x5_3 p253 q253
                  obtain rfl : ad252 = ad253 := (by injection e253)
                  replace hx253_0 := (HB.out.cell (World.block_lt_of_cell? w _ hx253_0)).trans hx253_0
                  replace hx253_1 := (HB.out.cell (World.block_lt_of_cell? w _ hx253_1)).trans hx253_1
                  replace p253 := eq_true p253
                  replace q253 := eq_true q253
                  have p254 : 0 ≤ (x5_3 : Int) := of_decide_eq_true (by first | (with_reducible assumption) | assumption)
                  have q254 : x5_3 < (((rd_T30 l0_0 x3_1).f2).length : Int) := of_decide_eq_true (by first | (with_reducible assumption) | assumption)
                  obtain ⟨ad254, e254, hx254_0, hx254_1⟩ := at_T37 HR246_2.out x5_3 p254 q254
                  obtain rfl : ad252 = ad254 := (by injection e254)
                  replace hx254_0 := (HB.out.cell (World.block_lt_of_cell? w _ hx254_0)).trans hx254_0
                  replace hx254_1 := (HB.out.cell (World.block_lt_of_cell? w _ hx254_1)).trans hx254_1
                  replace p254 := eq_true p254
                  replace q254 := eq_true q254
                  go_wp2
                  go_ret
                  exact ⟨by first | rfl | (simp [errW_none, errW_some] <;> rfl) | (simp [*, errW_none, errW_some] <;> rfl), by repeat (first | (with_reducible first | exact HB.out | apply below_alloc | apply pw_below_drewN | apply below_drew1 | refine below_set ?_ GE245.out | refine below_set ?_ GE247.out) | exact HB.out)⟩
              ·rw [if_neg c64] at H
               exact absurd H (by simp)
             ·rw [if_neg c63] at H
              have c63b0 : decide (x5_3 < (((rd_T30 l0_0 x3_1).f2).length : Int)) = false := decide_eq_false c63
              clear c63
              have H' := Aside0.mk H
              clear H
              have hnb76 := NB247_245.out
              have hnc76 := NB245_247.out
              have hcz77_0 : wr.cell? ⟨gb247, 0, none⟩ = some (.slice A246_0 ((rd_T30 l0_0 x3_1).f0).length c246_0) := (blk_cell BK247.out 0).trans rfl
              have hcz77_1 : wr.cell? ⟨gb247, 1, none⟩ = some (.slice A246_1 ((rd_T30 l0_0 x3_1).f1).length c246_1) := (blk_cell BK247.out 1).trans rfl
              have hcz77_2 : wr.cell? ⟨gb247, 2, none⟩ = some (.slice A246_2 ((rd_T30 l0_0 x3_1).f2).length c246_2) := (blk_cell BK247.out 2).trans rfl
              have hfz77_0 := blk_frozen BK247.out 0
              have hfz77_1 := blk_frozen BK247.out 1
              have hfz77_2 := blk_frozen BK247.out 2
              go_wp2
              go_roundg k3
              case measure => have := HK1.out; have := HJ49.out; have := HK3.out; omega
              case rel => exact ⟨(wrap64 (x3_1 + 1)), (by first | rfl | (simp; done) | (simp [*]; done)), H', ⟨by have := HK1.out; have := HJ49.out; have := HK3.out; omega⟩, ⟨by (with_reducible repeat (first | refine blk_drewN ?_ _ | refine blk_drew ?_ | refine blk_alloc ?_ _)); exact BK245.out⟩, ⟨by repeat (first | (with_reducible first | exact HB.out | apply below_alloc | apply pw_below_drewN | apply below_drew1 | refine below_set ?_ GE245.out | refine below_set ?_ GE247.out) | exact HB.out)⟩⟩
      ·replace c10 := Bool.eq_false_iff.mpr c10
       subst c10
       have H1 : (some false) = some r := by rw [if_neg (show ¬ (false = true) by decide)] at H; exact H
       clear H
       have H := H1
       clear H1
       obtain rfl := Option.some.inj H
       have hcz78_0 : wr.cell? ⟨gb245, 0, none⟩ = some (.slice A0_0 l0_0.length c0_0) := (blk_cell BK245.out 0).trans rfl
       have hfz78_0 := blk_frozen BK245.out 0
       have p246 : 0 ≤ (x3_1 : Int) := of_decide_eq_true (by first | (with_reducible assumption) | assumption)
       have q246 : x3_1 < (l0_0.length : Int) := of_decide_eq_true (by first | (with_reducible assumption) | assumption)
       obtain ⟨ad246, A246_0, c246_0, A246_1, c246_1, A246_2, c246_2, e246, hx246_0, hx246_1, hx246_2, hl246_0, hi246_0, hl246_1, hi246_1, hl246_2, hi246_2⟩ := at_T30 HR0_0.out x3_1 p246 q246
       cases e246
       replace hx246_0 := (HB.out.cell (World.block_lt_of_cell? w _ hx246_0)).trans hx246_0
       replace hx246_1 := (HB.out.cell (World.block_lt_of_cell? w _ hx246_1)).trans hx246_1
       replace hx246_2 := (HB.out.cell (World.block_lt_of_cell? w _ hx246_2)).trans hx246_2
       have HR246_0 := Aside0.mk hi246_0
       have HC246_0 := Aside0.mk hl246_0
       clear hi246_0 hl246_0
       have HR246_1 := Aside0.mk hi246_1
       have HC246_1 := Aside0.mk hl246_1
       clear hi246_1 hl246_1
       have HR246_2 := Aside0.mk hi246_2
       have HC246_2 := Aside0.mk hl246_2
       clear hi246_2 hl246_2
       replace p246 := eq_true p246
       replace q246 := eq_true q246
       go_wp2_with (first | ((with_reducible refine gate_dst (N := 4) rfl ?_); (try (refine gate_guard (by rfl) ?_; dsimp only)); refine box_event ?hg (N := 4) ?hd (cs := #[.slice none 0 0, .slice none 0 0, .slice none 0 0]) (t := 30) ?hr ?_; (case hd => rfl); (case hg => rfl); (case hr => first | (go_simp; done) | (go_simp; rfl)); intro gb247 hg w79 hbox hb; have n0_ := Aside0.mk (blk_below (g := gb245) (o := .cells #[.slice (some ad246) l0_0.length c0_0] 24 (0, 0)) (by (with_reducible repeat (first | refine blk_drewN ?_ _ | refine blk_drew ?_ | refine blk_alloc ?_ _)); exact BK245.out) hb); have n1_ := Aside0.mk (below_step (by repeat (first | (with_reducible first | exact HB.out | apply below_alloc | apply pw_below_drewN | apply below_drew1 | refine below_set ?_ GE245.out) | exact HB.out)) hb); have n2_ := Aside0.mk (hbox); have n3_ := Aside0.mk ((by rw [hg]; exact (below_size (by repeat (first | (with_reducible first | exact HB.out | apply below_alloc | apply pw_below_drewN | apply below_drew1 | refine below_set ?_ GE245.out) | exact HB.out))) : w.heap.size ≤ gb247)); have n4_ := Aside0.mk ((by rw [hg]; exact (below_size (by repeat (first | (with_reducible first | exact HB.out | apply below_alloc | apply pw_below_drewN | apply below_drew1 | refine below_set ?_ GE245.out) | exact HB.out))) : w.heap.size ≤ gb247)); have n5_ := Aside0.mk ((by rw [hg]; exact Nat.ne_of_lt (blk_lt (g := gb245) (o := .cells #[.slice (some ad246) l0_0.length c0_0] 24 (0, 0)) (by (with_reducible repeat (first | refine blk_drewN ?_ _ | refine blk_drew ?_ | refine blk_alloc ?_ _)); exact BK245.out)) : gb245 ≠ gb247)); have n6_ := Aside0.mk ((by rw [hg]; exact Nat.ne_of_gt (blk_lt (g := gb245) (o := .cells #[.slice (some ad246) l0_0.length c0_0] 24 (0, 0)) (by (with_reducible repeat (first | refine blk_drewN ?_ _ | refine blk_drew ?_ | refine blk_alloc ?_ _)); exact BK245.out)) : gb247 ≠ gb245)); clear BK245; clear HB; have BK245 := n0_; have HB := n1_; have BK247 := n2_; have GW247 := n3_; have GE247 := n4_; have NB245_247 := n5_; have NB247_245 := n6_; clear n0_ n1_ n2_ n3_ n4_ n5_ n6_; clear hb hbox hg; have hnb80 := NB247_245.out; have hnc80 := NB245_247.out; have hcz81_0 : w79.cell? ⟨gb247, 0, none⟩ = some (.slice none 0 0) := (blk_cell BK247.out 0).trans rfl; have hcz81_1 : w79.cell? ⟨gb247, 1, none⟩ = some (.slice none 0 0) := (blk_cell BK247.out 1).trans rfl; have hcz81_2 : w79.cell? ⟨gb247, 2, none⟩ = some (.slice none 0 0) := (blk_cell BK247.out 2).trans rfl; have hfz81_0 := blk_frozen BK247.out 0; have hfz81_1 := blk_frozen BK247.out 1; have hfz81_2 := blk_frozen BK247.out 2) | ((with_reducible refine gate_callee (f := 29) rfl ?_); refine goesL_ (some 24) rfl rfl Try.func29 (by kernel_rfl) rfl #[.slice A246_2 ((rd_T30 l0_0 x3_1).f2).length c246_2] rfl (by (try simp only [List.map_toArray, List.map_cons, List.map_nil]); first | done | rfl | (simp only [List.length_drop, List.length_take]; rfl)) ?_; (with_reducible refine (cartoucheref13_rising.calls k1 _ _ ((rd_T30 l0_0 x3_1).f2) false _ ?side1 ?side2 A9.out).mono ?_); (case side1 => exact Kd.C_below HR246_2.out (by repeat (first | (with_reducible first | exact HB.out | apply below_alloc | apply pw_below_drewN | apply below_drew1 | refine below_set ?_ GE245.out | refine below_set ?_ GE247.out) | exact HB.out))); (case side2 => exact HC246_2.out); rintro e w' ⟨rfl, ⟨nd, rfl⟩⟩; refine ⟨_, rfl, ?_⟩))
       go_ret
       exact ⟨by first | rfl | (simp [errW_none, errW_some] <;> rfl) | (simp [*, errW_none, errW_some] <;> rfl), by repeat (first | (with_reducible first | exact HB.out | apply below_alloc | apply pw_below_drewN | apply below_drew1 | refine below_set ?_ GE245.out | refine below_set ?_ GE247.out) | exact HB.out)⟩
     ·rw [if_neg c8] at H
      exact absurd H (by simp)
    ·rw [if_neg c7] at H
     have c7b0 : decide (x3_1 < (l0_0.length : Int)) = false := decide_eq_false c7
     clear c7
     obtain rfl := Option.some.inj H
     have hcz82_0 : wr.cell? ⟨gb245, 0, none⟩ = some (.slice A0_0 l0_0.length c0_0) := (blk_cell BK245.out 0).trans rfl
     have hfz82_0 := blk_frozen BK245.out 0
     go_wp2
     go_ret
     exact ⟨by first | rfl | (simp [errW_none, errW_some] <;> rfl) | (simp [*, errW_none, errW_some] <;> rfl), by repeat (first | (with_reducible first | exact HB.out | apply below_alloc | apply pw_below_drewN | apply below_drew1 | refine below_set ?_ GE245.out) | exact HB.out)⟩
end Go.Proofs.Ytedghbjmhcgilaa.POpt
end
