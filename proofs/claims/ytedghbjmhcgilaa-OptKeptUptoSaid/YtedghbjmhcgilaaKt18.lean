import Derived.Test.YtedghbjmhcgilaaKt4
import Derived.Test.YtedghbjmhcgilaaKt16
import Derived.Test.YtedghbjmhcgilaaKt17
section
namespace Go.Proofs.Ytedghbjmhcgilaa.POpt
open Go.RowKit Go.Proofs.YtedghbjmhcgilaaW.PrintWords Go.Proofs.YtedghbjmhcgilaaW.PrintLast Go.Proofs.YtedghbjmhcgilaaW.PrintMore
attribute [local go_sem] max2_int min2_int max_two min_two max_three min_three max_four min_four
set_option linter.unusedVariables false
set_option linter.unusedSimpArgs false
def cartoucheref13_dec.f (l0_0 : List (S30)) (l1_0 : List (S35)) (l1_1 : List (S35)) (l1_2 : List (S37)) : Option (Bool) := if l1_0.length ≤ 35184372088832 then (if l1_2.length ≤ 35184372088832 then some (A.decB l0_0 l1_0 l1_2) else none) else none
theorem cartoucheref13_dec.calls (A0_0 : Option Addr) (c0_0 : Nat) (l0_0 : List (S30)) (A1_0 : Option Addr) (c1_0 : Nat) (l1_0 : List (S35)) (A1_1 : Option Addr) (c1_1 : Nat) (l1_1 : List (S35)) (A1_2 : Option Addr) (c1_2 : Nat) (l1_2 : List (S37)) (r : Bool) (w : World) (hr0_0 : Kd.C k30 w A0_0 l0_0.length l0_0) (hc0_0 : l0_0.length ≤ c0_0) (hr1_0 : Kd.C k35 w A1_0 l1_0.length l1_0) (hc1_0 : l1_0.length ≤ c1_0) (hr1_1 : Kd.C k35 w A1_1 l1_1.length l1_1) (hc1_1 : l1_1.length ≤ c1_1) (hr1_2 : Kd.C k37 w A1_2 l1_2.length l1_2) (hc1_2 : l1_2.length ≤ c1_2) (h : cartoucheref13_dec.f l0_0 l1_0 l1_1 l1_2 = some r) :
  Calls Try.prog 31 #[.agg #[.slice A0_0 l0_0.length c0_0], .agg #[.slice A1_0 l1_0.length c1_0, .slice A1_1 l1_1.length c1_1, .slice A1_2 l1_2.length c1_2]] w fun e w' => e = .returned (.bool r) ∧ Below w.heap.size w w' := by
 unfold cartoucheref13_dec.f at h
 split at h
 case isFalse => cases h
 rename_i h1
 split at h
 case isFalse => cases h
 rename_i h2
 obtain rfl : A.decB l0_0 l1_0 l1_2 = r := Option.some.inj h
 exact A.dec_calls l0_0 A0_0 c0_0 A1_0 c1_0 l1_0 A1_1 c1_1 l1_1 A1_2 c1_2 l1_2 w hr0_0 hc0_0 hr1_0 hr1_2 h1 h2
end Go.Proofs.Ytedghbjmhcgilaa.POpt
end
section
namespace Go.Proofs.Ytedghbjmhcgilaa.POpt
open Go.RowKit Go.Proofs.YtedghbjmhcgilaaW.PrintWords Go.Proofs.YtedghbjmhcgilaaW.PrintLast Go.Proofs.YtedghbjmhcgilaaW.PrintMore
attribute [local go_sem] max2_int min2_int max_two min_two max_three min_three max_four min_four
set_option linter.unusedVariables false
set_option linter.unusedSimpArgs false
def cartoucheref13_numbers.f (l0_0 : List (S30)) (a1_0 : Int) (a1_1 : Int) (a1_2 : Int) (a1_3 : Int) (a1_4 : Int) : Option (Bool) := some (N.numB l0_0 a1_0 a1_1 a1_2 a1_3 a1_4)
theorem cartoucheref13_numbers.calls (A0_0 : Option Addr) (c0_0 : Nat) (l0_0 : List (S30)) (a1_0 : Int) (a1_1 : Int) (a1_2 : Int) (a1_3 : Int) (a1_4 : Int) (r : Bool) (w : World) (hr0_0 : Kd.C k30 w A0_0 l0_0.length l0_0) (hc0_0 : l0_0.length ≤ c0_0) (h : cartoucheref13_numbers.f l0_0 a1_0 a1_1 a1_2 a1_3 a1_4 = some r) :
  Calls Try.prog 52 #[.agg #[.slice A0_0 l0_0.length c0_0], .agg #[.int .i64 a1_0, .int .i64 a1_1, .int .i64 a1_2, .int .i64 a1_3, .int .i64 a1_4]] w fun e w' => e = .returned (.bool r) ∧ Below w.heap.size w w' := by
 obtain rfl : N.numB l0_0 a1_0 a1_1 a1_2 a1_3 a1_4 = r := Option.some.inj h
 exact N.numB_calls l0_0 A0_0 c0_0 a1_0 a1_1 a1_2 a1_3 a1_4 w hr0_0 hc0_0
end Go.Proofs.Ytedghbjmhcgilaa.POpt
end
section
namespace Go.Proofs.Ytedghbjmhcgilaa.POpt
open Go.RowKit Go.Proofs.YtedghbjmhcgilaaW.PrintWords Go.Proofs.YtedghbjmhcgilaaW.PrintLast Go.Proofs.YtedghbjmhcgilaaW.PrintMore
attribute [local go_sem] max2_int min2_int max_two min_two max_three min_three max_four min_four
set_option linter.unusedVariables false
set_option linter.unusedSimpArgs false
mutual
def cartoucheref13_enc.j0 : Nat → Int → Bool → List (S30) → List (S35) → List (S35) → List (S37) → Option (Bool)
 | 0, _, _, _, _, _, _ => none
 | k + 1, x5, x22, x239000, x240000, x240001, x240002 => if x22 = true then (some false) else (cartoucheref13_enc.l0 k x5 0 x239000 x240000 x240001 x240002)
def cartoucheref13_enc.l0 : Nat → Int → Int → List (S30) → List (S35) → List (S35) → List (S37) → Option (Bool)
 | 0, _, _, _, _, _, _ => none
 | k + 1, x5, x6, x239000, x240000, x240001, x240002 => if x6 < x5 then (if 0 ≤ x6 then (if x6 < (x240001.length : Int) then (if ((rd_T35 x240001 x6).f0) < 16 then (cartoucheref13_enc.j2 k x5 x6 true x239000 x240000 x240001 x240002 ((rd_T35 x240001 x6).f0) ((rd_T35 x240001 x6).f1) ((rd_T35 x240001 x6).f2) ((rd_T35 x240001 x6).f3) ((rd_T35 x240001 x6).f4)) else (if ((rd_T35 x240001 x6).f0) > 25 then (cartoucheref13_enc.j2 k x5 x6 true x239000 x240000 x240001 x240002 ((rd_T35 x240001 x6).f0) ((rd_T35 x240001 x6).f1) ((rd_T35 x240001 x6).f2) ((rd_T35 x240001 x6).f3) ((rd_T35 x240001 x6).f4)) else (if ((rd_T35 x240001 x6).f0) = 24 then (if x6 < (wrap64 (x5 - 1)) then (cartoucheref13_enc.j2 k x5 x6 true x239000 x240000 x240001 x240002 ((rd_T35 x240001 x6).f0) ((rd_T35 x240001 x6).f1) ((rd_T35 x240001 x6).f2) ((rd_T35 x240001 x6).f3) ((rd_T35 x240001 x6).f4)) else ((cartoucheref13_numbers.f x239000 ((rd_T35 x240001 x6).f0) ((rd_T35 x240001 x6).f1) ((rd_T35 x240001 x6).f2) ((rd_T35 x240001 x6).f3) ((rd_T35 x240001 x6).f4)).bind fun t243 => (cartoucheref13_enc.j2 k x5 x6 (!t243) x239000 x240000 x240001 x240002 ((rd_T35 x240001 x6).f0) ((rd_T35 x240001 x6).f1) ((rd_T35 x240001 x6).f2) ((rd_T35 x240001 x6).f3) ((rd_T35 x240001 x6).f4)))) else ((cartoucheref13_numbers.f x239000 ((rd_T35 x240001 x6).f0) ((rd_T35 x240001 x6).f1) ((rd_T35 x240001 x6).f2) ((rd_T35 x240001 x6).f3) ((rd_T35 x240001 x6).f4)).bind fun t244 => (cartoucheref13_enc.j2 k x5 x6 (!t244) x239000 x240000 x240001 x240002 ((rd_T35 x240001 x6).f0) ((rd_T35 x240001 x6).f1) ((rd_T35 x240001 x6).f2) ((rd_T35 x240001 x6).f3) ((rd_T35 x240001 x6).f4)))))) else (none)) else (none)) else (some true)
def cartoucheref13_enc.j2 : Nat → Int → Int → Bool → List (S30) → List (S35) → List (S35) → List (S37) → Int → Int → Int → Int → Int → Option (Bool)
 | 0, _, _, _, _, _, _, _, _, _, _, _, _ => none
 | k + 1, x5, x6, x57, x239000, x240000, x240001, x240002, x243000, x243001, x243002, x243003, x243004 => if x57 = true then (some false) else (if x243000 = 16 then (if x243002 ≤ x6 then (some false) else (if x243002 ≥ x5 then (some false) else (cartoucheref13_enc.l0 k x5 (wrap64 (x6 + 1)) x239000 x240000 x240001 x240002))) else (cartoucheref13_enc.l0 k x5 (wrap64 (x6 + 1)) x239000 x240000 x240001 x240002))
end
def cartoucheref13_enc.f (k : Nat) (l0_0 : List (S30)) (l1_0 : List (S35)) (l1_1 : List (S35)) (l1_2 : List (S37)) : Option (Bool) := if (l1_1.length : Int) = 0 then (cartoucheref13_enc.j0 k (l1_1.length : Int) true l0_0 l1_0 l1_1 l1_2) else (if 0 ≤ (wrap64 ((l1_1.length : Int) - 1)) then (if (wrap64 ((l1_1.length : Int) - 1)) < (l1_1.length : Int) then (cartoucheref13_enc.j0 k (l1_1.length : Int) (((rd_T35 l1_1 (wrap64 ((l1_1.length : Int) - 1))).f0) != 24) l0_0 l1_0 l1_1 l1_2) else (none)) else (none))
theorem cartoucheref13_enc.mono_l : ∀ k, (∀ y0 y1 y2 y3 y4 y5, LeO (cartoucheref13_enc.j0 k y0 y1 y2 y3 y4 y5) (cartoucheref13_enc.j0 (k + 1) y0 y1 y2 y3 y4 y5)) ∧ (∀ y0 y1 y2 y3 y4 y5, LeO (cartoucheref13_enc.l0 k y0 y1 y2 y3 y4 y5) (cartoucheref13_enc.l0 (k + 1) y0 y1 y2 y3 y4 y5)) ∧ (∀ y0 y1 y2 y3 y4 y5 y6 y7 y8 y9 y10 y11, LeO (cartoucheref13_enc.j2 k y0 y1 y2 y3 y4 y5 y6 y7 y8 y9 y10 y11) (cartoucheref13_enc.j2 (k + 1) y0 y1 y2 y3 y4 y5 y6 y7 y8 y9 y10 y11))
 | 0 => ⟨fun _ _ _ _ _ _ r h => by simp [cartoucheref13_enc.j0] at h, fun _ _ _ _ _ _ r h => by simp [cartoucheref13_enc.l0] at h, fun _ _ _ _ _ _ _ _ _ _ _ _ r h => by simp [cartoucheref13_enc.j2] at h⟩
 | k + 1 => by
  obtain ⟨ih0, ih1, ih2⟩ := cartoucheref13_enc.mono_l k
  refine ⟨?_, ?_, ?_⟩
  ·intro y0 y1 y2 y3 y4 y5
   unfold cartoucheref13_enc.j0
   repeat' first
   | (with_reducible exact ih0 _ _ _ _ _ _)
   | (with_reducible exact ih1 _ _ _ _ _ _)
   | (with_reducible exact ih2 _ _ _ _ _ _ _ _ _ _ _ _)
   | (with_reducible exact LeO.refl _)
   | (with_reducible exact LeO.none _)
   | (with_reducible refine LeO.ite ?_ ?_)
   | (with_reducible refine LeO.bind ?_ (fun _ => ?_))
   | exact ih0 _ _ _ _ _ _
   | exact ih1 _ _ _ _ _ _
   | exact ih2 _ _ _ _ _ _ _ _ _ _ _ _
   | exact LeO.none _
   | refine LeO.ite ?_ ?_
   | refine LeO.bind ?_ (fun _ => ?_)
  ·intro y0 y1 y2 y3 y4 y5
   unfold cartoucheref13_enc.l0
   repeat' first
   | (with_reducible exact ih0 _ _ _ _ _ _)
   | (with_reducible exact ih1 _ _ _ _ _ _)
   | (with_reducible exact ih2 _ _ _ _ _ _ _ _ _ _ _ _)
   | (with_reducible exact LeO.refl _)
   | (with_reducible exact LeO.none _)
   | (with_reducible refine LeO.ite ?_ ?_)
   | (with_reducible refine LeO.bind ?_ (fun _ => ?_))
   | exact ih0 _ _ _ _ _ _
   | exact ih1 _ _ _ _ _ _
   | exact ih2 _ _ _ _ _ _ _ _ _ _ _ _
   | exact LeO.none _
   | refine LeO.ite ?_ ?_
   | refine LeO.bind ?_ (fun _ => ?_)
  ·intro y0 y1 y2 y3 y4 y5 y6 y7 y8 y9 y10 y11
   unfold cartoucheref13_enc.j2
   repeat' first
   | (with_reducible exact ih0 _ _ _ _ _ _)
   | (with_reducible exact ih1 _ _ _ _ _ _)
   | (with_reducible exact ih2 _ _ _ _ _ _ _ _ _ _ _ _)
   | (with_reducible exact LeO.refl _)
   | (with_reducible exact LeO.none _)
   | (with_reducible refine LeO.ite ?_ ?_)
   | (with_reducible refine LeO.bind ?_ (fun _ => ?_))
   | exact ih0 _ _ _ _ _ _
   | exact ih1 _ _ _ _ _ _
   | exact ih2 _ _ _ _ _ _ _ _ _ _ _ _
   | exact LeO.none _
   | refine LeO.ite ?_ ?_
   | refine LeO.bind ?_ (fun _ => ?_)
theorem cartoucheref13_enc.mono : ∀ a0 a1 a2 a3 k, LeO (cartoucheref13_enc.f k a0 a1 a2 a3) (cartoucheref13_enc.f (k + 1) a0 a1 a2 a3) := by
 intro a0 a1 a2 a3 k
 obtain ⟨ih0, ih1, ih2⟩ := cartoucheref13_enc.mono_l k
 unfold cartoucheref13_enc.f
 repeat' first
   | (with_reducible exact ih0 _ _ _ _ _ _)
   | (with_reducible exact ih1 _ _ _ _ _ _)
   | (with_reducible exact ih2 _ _ _ _ _ _ _ _ _ _ _ _)
   | (with_reducible exact LeO.refl _)
   | (with_reducible exact LeO.none _)
   | (with_reducible refine LeO.ite ?_ ?_)
   | (with_reducible refine LeO.bind ?_ (fun _ => ?_))
   | exact ih0 _ _ _ _ _ _
   | exact ih1 _ _ _ _ _ _
   | exact ih2 _ _ _ _ _ _ _ _ _ _ _ _
   | exact LeO.none _
   | refine LeO.ite ?_ ?_
   | refine LeO.bind ?_ (fun _ => ?_)
set_option maxHeartbeats 8000000 in
set_option maxRecDepth 100000 in
theorem cartoucheref13_enc.calls (k : Nat) (A0_0 : Option Addr) (c0_0 : Nat) (l0_0 : List (S30)) (A1_0 : Option Addr) (c1_0 : Nat) (l1_0 : List (S35)) (A1_1 : Option Addr) (c1_1 : Nat) (l1_1 : List (S35)) (A1_2 : Option Addr) (c1_2 : Nat) (l1_2 : List (S37)) (r : Bool) (w : World) (hr0_0 : Kd.C k30 w A0_0 l0_0.length l0_0) (hc0_0 : l0_0.length ≤ c0_0) (hr1_0 : Kd.C k35 w A1_0 l1_0.length l1_0) (hc1_0 : l1_0.length ≤ c1_0) (hr1_1 : Kd.C k35 w A1_1 l1_1.length l1_1) (hc1_1 : l1_1.length ≤ c1_1) (hr1_2 : Kd.C k37 w A1_2 l1_2.length l1_2) (hc1_2 : l1_2.length ≤ c1_2) (h : cartoucheref13_enc.f k l0_0 l1_0 l1_1 l1_2 = some r) :
  Calls Try.prog 32 #[.agg #[.slice A0_0 l0_0.length c0_0], .agg #[.slice A1_0 l1_0.length c1_0, .slice A1_1 l1_1.length c1_1, .slice A1_2 l1_2.length c1_2]] w fun e w' => e = .returned (.bool r) ∧ Below w.heap.size w w' := by
 have hu24 := Try.underlying24
 have hu30 := Try.underlying30
 have hu35 := Try.underlying35
 have HR0_0 := Aside0.mk hr0_0
 have HC0_0 := Aside0.mk hc0_0
 clear hr0_0 hc0_0
 have HR1_0 := Aside0.mk hr1_0
 have HC1_0 := Aside0.mk hc1_0
 clear hr1_0 hc1_0
 have HR1_1 := Aside0.mk hr1_1
 have HC1_1 := Aside0.mk hc1_1
 clear hr1_1 hc1_1
 have HR1_2 := Aside0.mk hr1_2
 have HC1_2 := Aside0.mk hc1_2
 clear hr1_2 hc1_2
 have HB := Aside0.mk (Below.refl w.heap.size w)
 have H : (if (l1_1.length : Int) = 0 then (cartoucheref13_enc.j0 k (l1_1.length : Int) true l0_0 l1_0 l1_1 l1_2) else (if 0 ≤ (wrap64 ((l1_1.length : Int) - 1)) then (if (wrap64 ((l1_1.length : Int) - 1)) < (l1_1.length : Int) then (cartoucheref13_enc.j0 k (l1_1.length : Int) (((rd_T35 l1_1 (wrap64 ((l1_1.length : Int) - 1))).f0) != 24) l0_0 l1_0 l1_1 l1_2) else (none)) else (none))) = some r := h
 clear h
 have HC3 := Aside0.mk H
 clear H
 go_enter Try.func32, Try.ntmps32
 go_upto_region 2 with (first | ((with_reducible refine gate_dst (N := 2) rfl ?_); refine box_event ?hg (N := 2) ?hd (cs := #[.slice A0_0 l0_0.length c0_0]) (t := 24) ?hr ?_; (case hd => rfl); (case hg => rfl); (case hr => first | (go_simp; done) | (go_simp; rfl)); intro gb238 hg w4 hbox hb; have n0_ := Aside0.mk (below_step (by repeat (first | (with_reducible first | exact HB.out | apply below_alloc | apply pw_below_drewN | apply below_drew1) | exact HB.out)) hb); have n1_ := Aside0.mk (hbox); have n2_ := Aside0.mk ((by rw [hg]; exact (below_size (by repeat (first | (with_reducible first | exact HB.out | apply below_alloc | apply pw_below_drewN | apply below_drew1) | exact HB.out))) : w.heap.size ≤ gb238)); have n3_ := Aside0.mk ((by rw [hg]; exact (below_size (by repeat (first | (with_reducible first | exact HB.out | apply below_alloc | apply pw_below_drewN | apply below_drew1) | exact HB.out))) : w.heap.size ≤ gb238)); clear HB; have HB := n0_; have BK238 := n1_; have GW238 := n2_; have GE238 := n3_; clear n0_ n1_ n2_ n3_; clear hb hbox hg) | ((with_reducible refine gate_dst (N := 3) rfl ?_); refine box_event ?hg (N := 3) ?hd (cs := #[.slice A1_0 l1_0.length c1_0, .slice A1_1 l1_1.length c1_1, .slice A1_2 l1_2.length c1_2]) (t := 30) ?hr ?_; (case hd => rfl); (case hg => rfl); (case hr => first | (go_simp; done) | (go_simp; rfl)); intro gb239 hg w5 hbox hb; have n0_ := Aside0.mk (blk_below (g := gb238) (o := .cells #[.slice A0_0 l0_0.length c0_0] 24 (0, 0)) (by (with_reducible repeat (first | refine blk_drewN ?_ _ | refine blk_drew ?_ | refine blk_alloc ?_ _)); exact BK238.out) hb); have n1_ := Aside0.mk (below_step (by repeat (first | (with_reducible first | exact HB.out | apply below_alloc | apply pw_below_drewN | apply below_drew1 | refine below_set ?_ GE238.out) | exact HB.out)) hb); have n2_ := Aside0.mk (hbox); have n3_ := Aside0.mk ((by rw [hg]; exact (below_size (by repeat (first | (with_reducible first | exact HB.out | apply below_alloc | apply pw_below_drewN | apply below_drew1 | refine below_set ?_ GE238.out) | exact HB.out))) : w.heap.size ≤ gb239)); have n4_ := Aside0.mk ((by rw [hg]; exact (below_size (by repeat (first | (with_reducible first | exact HB.out | apply below_alloc | apply pw_below_drewN | apply below_drew1 | refine below_set ?_ GE238.out) | exact HB.out))) : w.heap.size ≤ gb239)); have n5_ := Aside0.mk ((by rw [hg]; exact Nat.ne_of_lt (blk_lt (g := gb238) (o := .cells #[.slice A0_0 l0_0.length c0_0] 24 (0, 0)) (by (with_reducible repeat (first | refine blk_drewN ?_ _ | refine blk_drew ?_ | refine blk_alloc ?_ _)); exact BK238.out)) : gb238 ≠ gb239)); have n6_ := Aside0.mk ((by rw [hg]; exact Nat.ne_of_gt (blk_lt (g := gb238) (o := .cells #[.slice A0_0 l0_0.length c0_0] 24 (0, 0)) (by (with_reducible repeat (first | refine blk_drewN ?_ _ | refine blk_drew ?_ | refine blk_alloc ?_ _)); exact BK238.out)) : gb239 ≠ gb238)); clear BK238; clear HB; have BK238 := n0_; have HB := n1_; have BK239 := n2_; have GW239 := n3_; have GE239 := n4_; have NB238_239 := n5_; have NB239_238 := n6_; clear n0_ n1_ n2_ n3_ n4_ n5_ n6_; clear hb hbox hg; have hnb6 := NB239_238.out; have hnc6 := NB238_239.out; have hcz7_0 : w5.cell? ⟨gb239, 0, none⟩ = some (.slice A1_0 l1_0.length c1_0) := (blk_cell BK239.out 0).trans rfl; have hcz7_1 : w5.cell? ⟨gb239, 1, none⟩ = some (.slice A1_1 l1_1.length c1_1) := (blk_cell BK239.out 1).trans rfl; have hcz7_2 : w5.cell? ⟨gb239, 2, none⟩ = some (.slice A1_2 l1_2.length c1_2) := (blk_cell BK239.out 2).trans rfl; have hfz7_0 := blk_frozen BK239.out 0; have hfz7_1 := blk_frozen BK239.out 1; have hfz7_2 := blk_frozen BK239.out 2))
 (try simp only [Act.put, List.setIfInBounds_toArray, List.set_cons_zero, List.set_cons_succ])
 go_cut [22] (fun v22 wc => ∃ (kq : Nat) (x22_2 : Bool), v22 = .bool x22_2 ∧ Aside0 (cartoucheref13_enc.j0 kq (l1_1.length : Int) x22_2 l0_0 l1_0 l1_1 l1_2 = some r) ∧ Aside0 (kq ≤ k) ∧ Aside0 (wc.heap[gb238]? = some (.cells #[(.slice A0_0 l0_0.length c0_0)] 24 (0, 0))) ∧ Aside0 (wc.heap[gb239]? = some (.cells #[(.slice A1_0 l1_0.length c1_0), (.slice A1_1 l1_1.length c1_1), (.slice A1_2 l1_2.length c1_2)] 30 (0, 0))) ∧ Aside0 (Below w.heap.size w wc))
 case first =>
  have H := HC3.out
  clear HC3
  by_cases c8 : (l1_1.length : Int) = 0
  ·rw [if_pos c8] at H
   have c8b0 : ((l1_1.length : Int) == 0) = true := beq_iff_eq.mpr c8
   have c8b1 : ((l1_1.length : Int) != 0) = false := bne_eq_false_iff_eq.mpr c8
   clear c8
   (first | rw [c8b0] | (simp only [i64_w, i32_w]; rw [c8b0]) | skip)
   have H' := Aside0.mk H
   clear H
   go_wp2
   go_meet
   case rel => exact ⟨_, (true), (by first | rfl | (simp; done) | (simp [*]; done)), H', ⟨by first | omega | exact Nat.le_refl _⟩, ⟨by (with_reducible repeat (first | refine blk_drewN ?_ _ | refine blk_drew ?_ | refine blk_alloc ?_ _)); exact BK238.out⟩, ⟨by (with_reducible repeat (first | refine blk_drewN ?_ _ | refine blk_drew ?_ | refine blk_alloc ?_ _)); exact BK239.out⟩, ⟨by repeat (first | (with_reducible first | exact HB.out | apply below_alloc | apply pw_below_drewN | apply below_drew1 | refine below_set ?_ GE238.out | refine below_set ?_ GE239.out) | exact HB.out)⟩⟩
  ·rw [if_neg c8] at H
   have c8b0 : ((l1_1.length : Int) == 0) = false := beq_eq_false_iff_ne.mpr c8
   have c8b1 : ((l1_1.length : Int) != 0) = true := bne_iff_ne.mpr c8
   have c8b2 : ¬ (l1_1 = []) := fun h_ => c8 (by rw [h_]; rfl)
   (first | rw [c8b0] | (simp only [i64_w, i32_w]; rw [c8b0]) | skip)
   obtain ⟨ji9, hji9⟩ : ∃ j_ : Int, (wrap64 ((l1_1.length : Int) - 1)) = j_ := ⟨_, rfl⟩
   replace H : (if 0 ≤ (ji9) then (if (ji9) < (l1_1.length : Int) then (cartoucheref13_enc.j0 k (l1_1.length : Int) (((rd_T35 l1_1 (ji9)).f0) != 24) l0_0 l1_0 l1_1 l1_2) else (none)) else (none)) = some r := by first | (rw [hji9] at H; exact H) | (simp only [hji9] at H ⊢; exact H)
   have hji9w : (IntKind.i64.wrap ((l1_1.length : Int) - 1)) = ji9 := (i64_w _).trans hji9
   by_cases c10 : 0 ≤ (ji9)
   ·rw [if_pos c10] at H
    have c10b0 : decide (0 ≤ (ji9)) = true := decide_eq_true c10
    clear c10
    by_cases c11 : (ji9) < (l1_1.length : Int)
    ·rw [if_pos c11] at H
     have c11b0 : decide ((ji9) < (l1_1.length : Int)) = true := decide_eq_true c11
     clear c11
     have H' := Aside0.mk H
     clear H
     have hnb12 := NB239_238.out
     have hnc12 := NB238_239.out
     have hcz13_0 : w5.cell? ⟨gb239, 0, none⟩ = some (.slice A1_0 l1_0.length c1_0) := (blk_cell BK239.out 0).trans rfl
     have hcz13_1 : w5.cell? ⟨gb239, 1, none⟩ = some (.slice A1_1 l1_1.length c1_1) := (blk_cell BK239.out 1).trans rfl
     have hcz13_2 : w5.cell? ⟨gb239, 2, none⟩ = some (.slice A1_2 l1_2.length c1_2) := (blk_cell BK239.out 2).trans rfl
     have hfz13_0 := blk_frozen BK239.out 0
     have hfz13_1 := blk_frozen BK239.out 1
     have hfz13_2 := blk_frozen BK239.out 2
     have p240 : 0 ≤ ((ji9) : Int) := of_decide_eq_true (by first | (with_reducible assumption) | assumption)
     have q240 : (ji9) < (l1_1.length : Int) := of_decide_eq_true (by first | (with_reducible assumption) | assumption)
     obtain ⟨ad240, e240, hx240_0, hx240_1, hx240_2, hx240_3, hx240_4⟩ := at_T35 HR1_1.out (ji9) p240 q240
     cases e240
     replace hx240_0 := (HB.out.cell (World.block_lt_of_cell? w _ hx240_0)).trans hx240_0
     replace hx240_1 := (HB.out.cell (World.block_lt_of_cell? w _ hx240_1)).trans hx240_1
     replace hx240_2 := (HB.out.cell (World.block_lt_of_cell? w _ hx240_2)).trans hx240_2
     replace hx240_3 := (HB.out.cell (World.block_lt_of_cell? w _ hx240_3)).trans hx240_3
     replace hx240_4 := (HB.out.cell (World.block_lt_of_cell? w _ hx240_4)).trans hx240_4
     replace p240 := eq_true p240
     replace q240 := eq_true q240
     go_wp2
     go_meet
     case rel => exact ⟨_, ((((rd_T35 l1_1 (ji9)).f0) != 24)), (by first | rfl | (simp; done) | (simp only [← hji9] <;> (first | rfl | (simp; done))) | (simp [*]; done)), H', ⟨by first | omega | exact Nat.le_refl _⟩, ⟨by (with_reducible repeat (first | refine blk_drewN ?_ _ | refine blk_drew ?_ | refine blk_alloc ?_ _)); exact BK238.out⟩, ⟨by (with_reducible repeat (first | refine blk_drewN ?_ _ | refine blk_drew ?_ | refine blk_alloc ?_ _)); exact BK239.out⟩, ⟨by repeat (first | (with_reducible first | exact HB.out | apply below_alloc | apply pw_below_drewN | apply below_drew1 | refine below_set ?_ GE238.out | refine below_set ?_ GE239.out) | exact HB.out)⟩⟩
    ·rw [if_neg c11] at H
     exact absurd H (by simp)
   ·rw [if_neg c10] at H
    exact absurd H (by simp)
 case rest =>
  clear HC3
  try clear c1
  try clear p2
  try clear q2
  try clear hx2
  try clear c3
  try clear c6
  try clear p6
  try clear c8
  try clear c8b0
  try clear c8b1
  try clear c8b2
  try clear c10
  try clear c10b0
  try clear c11
  try clear c11b0
  try clear c12
  try clear hcz13_0
  try clear hcz13_1
  try clear hcz13_2
  try clear hcz7_0
  try clear hcz7_1
  try clear hcz7_2
  try clear hfz13_0
  try clear hfz13_1
  try clear hfz13_2
  try clear hfz7_0
  try clear hfz7_1
  try clear hfz7_2
  try clear hx240_0
  try clear hx240_1
  try clear hx240_2
  try clear hx240_3
  try clear hx240_4
  try clear p240
  try clear q240
  obtain ⟨kq, x22_2, rfl, HA, HJ2, BK238, BK239, HB⟩ := hcut
  cases kq with
  | zero => exact absurd HA.out (by simp [cartoucheref13_enc.j0])
  | succ kj2 =>
   have H := HA.out
   clear HA
   simp only [cartoucheref13_enc.j0] at H
   by_cases c14 : x22_2 = true
   ·subst c14
    have H1 : (some false) = some r := by rw [if_pos rfl] at H; exact H
    clear H
    have H := H1
    clear H1
    obtain rfl := Option.some.inj H
    go_wp2
    go_ret
    exact ⟨by first | rfl | (simp [errW_none, errW_some] <;> rfl) | (simp [*, errW_none, errW_some] <;> rfl), by repeat (first | (with_reducible first | exact HB.out | apply below_alloc | apply pw_below_drewN | apply below_drew1 | refine below_set ?_ GE238.out | refine below_set ?_ GE239.out) | exact HB.out)⟩
   ·replace c14 := Bool.eq_false_iff.mpr c14
    subst c14
    have H1 : (cartoucheref13_enc.l0 kj2 (l1_1.length : Int) 0 l0_0 l1_0 l1_1 l1_2) = some r := by rw [if_neg (show ¬ (false = true) by decide)] at H; exact H
    clear H
    have H := H1
    clear H1
    have H' := Aside0.mk H
    clear H
    go_wp2
    go_loopg [6] kj2 (fun kq v6 w' => ∃ (x6_2 : Int), v6 = .int .i64 x6_2 ∧ Aside0 (cartoucheref13_enc.l0 kq (l1_1.length : Int) x6_2 l0_0 l1_0 l1_1 l1_2 = some r) ∧ Aside0 (kq ≤ kj2) ∧ Aside0 (w'.heap[gb238]? = some (.cells #[(.slice A0_0 l0_0.length c0_0)] 24 (0, 0))) ∧ Aside0 (w'.heap[gb239]? = some (.cells #[(.slice A1_0 l1_0.length c1_0), (.slice A1_1 l1_1.length c1_1), (.slice A1_2 l1_2.length c1_2)] 30 (0, 0))) ∧ Aside0 (Below w.heap.size w w'))
    case atStart => exact ⟨(0), (by first | rfl | (simp; done) | (simp [*]; done)), H', ⟨Nat.le_refl _⟩, ⟨by (with_reducible repeat (first | refine blk_drewN ?_ _ | refine blk_drew ?_ | refine blk_alloc ?_ _)); exact BK238.out⟩, ⟨by (with_reducible repeat (first | refine blk_drewN ?_ _ | refine blk_drew ?_ | refine blk_alloc ?_ _)); exact BK239.out⟩, ⟨by repeat (first | (with_reducible first | exact HB.out | apply below_alloc | apply pw_below_drewN | apply below_drew1 | refine below_set ?_ GE238.out | refine below_set ?_ GE239.out) | exact HB.out)⟩⟩
    case round =>
     clear H'
     try clear c1
     try clear p2
     try clear q2
     try clear hx2
     try clear c3
     try clear c6
     try clear p6
     try clear c8
     try clear c8b0
     try clear c8b1
     try clear c8b2
     try clear c10
     try clear c10b0
     try clear c11
     try clear c11b0
     try clear c12
     try clear c14
     try clear hcz13_0
     try clear hcz13_1
     try clear hcz13_2
     try clear hcz7_0
     try clear hcz7_1
     try clear hcz7_2
     try clear hfz13_0
     try clear hfz13_1
     try clear hfz13_2
     try clear hfz7_0
     try clear hfz7_1
     try clear hfz7_2
     try clear hx240_0
     try clear hx240_1
     try clear hx240_2
     try clear hx240_3
     try clear hx240_4
     try clear p2
     try clear p240
     try clear p6
     try clear q2
     try clear q240
     obtain ⟨x6_2, rfl, HA, HK2, BK238, BK239, HB⟩ := hrel
     cases gk with
     | zero => exact absurd HA.out (by simp [cartoucheref13_enc.l0])
     | succ k2 =>
      have H := HA.out
      clear HA
      simp only [cartoucheref13_enc.l0] at H
      by_cases c15 : x6_2 < (l1_1.length : Int)
      ·rw [if_pos c15] at H
       have c15b0 : decide (x6_2 < (l1_1.length : Int)) = true := decide_eq_true c15
       clear c15
       by_cases c16 : 0 ≤ x6_2
       ·rw [if_pos c16] at H
        have c16b0 : decide (0 ≤ x6_2) = true := decide_eq_true c16
        clear c16
        by_cases c17 : x6_2 < (l1_1.length : Int)
        ·rw [if_pos c17] at H
         have c17b0 : decide (x6_2 < (l1_1.length : Int)) = true := decide_eq_true c17
         clear c17
         have HC18 := Aside0.mk H
         clear H
         have hnb19 := NB239_238.out
         have hnc19 := NB238_239.out
         have hcz20_0 : wr.cell? ⟨gb239, 0, none⟩ = some (.slice A1_0 l1_0.length c1_0) := (blk_cell BK239.out 0).trans rfl
         have hcz20_1 : wr.cell? ⟨gb239, 1, none⟩ = some (.slice A1_1 l1_1.length c1_1) := (blk_cell BK239.out 1).trans rfl
         have hcz20_2 : wr.cell? ⟨gb239, 2, none⟩ = some (.slice A1_2 l1_2.length c1_2) := (blk_cell BK239.out 2).trans rfl
         have hfz20_0 := blk_frozen BK239.out 0
         have hfz20_1 := blk_frozen BK239.out 1
         have hfz20_2 := blk_frozen BK239.out 2
         have p241 : 0 ≤ (x6_2 : Int) := of_decide_eq_true (by first | (with_reducible assumption) | assumption)
         have q241 : x6_2 < (l1_1.length : Int) := of_decide_eq_true (by first | (with_reducible assumption) | assumption)
         obtain ⟨ad241, e241, hx241_0, hx241_1, hx241_2, hx241_3, hx241_4⟩ := at_T35 HR1_1.out x6_2 p241 q241
         cases e241
         replace hx241_0 := (HB.out.cell (World.block_lt_of_cell? w _ hx241_0)).trans hx241_0
         replace hx241_1 := (HB.out.cell (World.block_lt_of_cell? w _ hx241_1)).trans hx241_1
         replace hx241_2 := (HB.out.cell (World.block_lt_of_cell? w _ hx241_2)).trans hx241_2
         replace hx241_3 := (HB.out.cell (World.block_lt_of_cell? w _ hx241_3)).trans hx241_3
         replace hx241_4 := (HB.out.cell (World.block_lt_of_cell? w _ hx241_4)).trans hx241_4
         replace p241 := eq_true p241
         replace q241 := eq_true q241
         go_upto_region 8 with (first | ((with_reducible refine gate_dst (N := 7) rfl ?_); refine box_event ?hg (N := 7) ?hd (cs := #[.int .i64 0, .int .i64 0, .int .i64 0, .int .i64 0, .int .i64 0]) (t := 35) ?hr ?_; (case hd => rfl); (case hg => rfl); (case hr => first | (go_simp; done) | (go_simp; rfl)); intro gb242 hg w21 hbox hb; have n0_ := Aside0.mk (blk_below (g := gb238) (o := .cells #[.slice A0_0 l0_0.length c0_0] 24 (0, 0)) (by (with_reducible repeat (first | refine blk_drewN ?_ _ | refine blk_drew ?_ | refine blk_alloc ?_ _)); exact BK238.out) hb); have n1_ := Aside0.mk (blk_below (g := gb239) (o := .cells #[.slice A1_0 l1_0.length c1_0, .slice (some ad241) l1_1.length c1_1, .slice A1_2 l1_2.length c1_2] 30 (0, 0)) (by (with_reducible repeat (first | refine blk_drewN ?_ _ | refine blk_drew ?_ | refine blk_alloc ?_ _)); exact BK239.out) hb); have n2_ := Aside0.mk (below_step (by repeat (first | (with_reducible first | exact HB.out | apply below_alloc | apply pw_below_drewN | apply below_drew1 | refine below_set ?_ GE238.out | refine below_set ?_ GE239.out) | exact HB.out)) hb); have n3_ := Aside0.mk (hbox); have n4_ := Aside0.mk ((by rw [hg]; exact (below_size (by repeat (first | (with_reducible first | exact HB.out | apply below_alloc | apply pw_below_drewN | apply below_drew1 | refine below_set ?_ GE238.out | refine below_set ?_ GE239.out) | exact HB.out))) : w.heap.size ≤ gb242)); have n5_ := Aside0.mk ((by rw [hg]; exact (below_size (by repeat (first | (with_reducible first | exact HB.out | apply below_alloc | apply pw_below_drewN | apply below_drew1 | refine below_set ?_ GE238.out | refine below_set ?_ GE239.out) | exact HB.out))) : w.heap.size ≤ gb242)); have n6_ := Aside0.mk ((by rw [hg]; exact Nat.ne_of_lt (blk_lt (g := gb238) (o := .cells #[.slice A0_0 l0_0.length c0_0] 24 (0, 0)) (by (with_reducible repeat (first | refine blk_drewN ?_ _ | refine blk_drew ?_ | refine blk_alloc ?_ _)); exact BK238.out)) : gb238 ≠ gb242)); have n7_ := Aside0.mk ((by rw [hg]; exact Nat.ne_of_gt (blk_lt (g := gb238) (o := .cells #[.slice A0_0 l0_0.length c0_0] 24 (0, 0)) (by (with_reducible repeat (first | refine blk_drewN ?_ _ | refine blk_drew ?_ | refine blk_alloc ?_ _)); exact BK238.out)) : gb242 ≠ gb238)); have n8_ := Aside0.mk ((by rw [hg]; exact Nat.ne_of_lt (blk_lt (g := gb239) (o := .cells #[.slice A1_0 l1_0.length c1_0, .slice (some ad241) l1_1.length c1_1, .slice A1_2 l1_2.length c1_2] 30 (0, 0)) (by (with_reducible repeat (first | refine blk_drewN ?_ _ | refine blk_drew ?_ | refine blk_alloc ?_ _)); exact BK239.out)) : gb239 ≠ gb242)); have n9_ := Aside0.mk ((by rw [hg]; exact Nat.ne_of_gt (blk_lt (g := gb239) (o := .cells #[.slice A1_0 l1_0.length c1_0, .slice (some ad241) l1_1.length c1_1, .slice A1_2 l1_2.length c1_2] 30 (0, 0)) (by (with_reducible repeat (first | refine blk_drewN ?_ _ | refine blk_drew ?_ | refine blk_alloc ?_ _)); exact BK239.out)) : gb242 ≠ gb239)); clear BK238; clear BK239; clear HB; have BK238 := n0_; have BK239 := n1_; have HB := n2_; have BK242 := n3_; have GW242 := n4_; have GE242 := n5_; have NB238_242 := n6_; have NB242_238 := n7_; have NB239_242 := n8_; have NB242_239 := n9_; clear n0_ n1_ n2_ n3_ n4_ n5_ n6_ n7_ n8_ n9_; clear hb hbox hg; have hnb22 := NB242_238.out; have hnc22 := NB238_242.out; have hnb23 := NB242_239.out; have hnc23 := NB239_242.out; have hcz24_0 : w21.cell? ⟨gb242, 0, none⟩ = some (.int .i64 0) := (blk_cell BK242.out 0).trans rfl; have hcz24_1 : w21.cell? ⟨gb242, 1, none⟩ = some (.int .i64 0) := (blk_cell BK242.out 1).trans rfl; have hcz24_2 : w21.cell? ⟨gb242, 2, none⟩ = some (.int .i64 0) := (blk_cell BK242.out 2).trans rfl; have hcz24_3 : w21.cell? ⟨gb242, 3, none⟩ = some (.int .i64 0) := (blk_cell BK242.out 3).trans rfl; have hcz24_4 : w21.cell? ⟨gb242, 4, none⟩ = some (.int .i64 0) := (blk_cell BK242.out 4).trans rfl; have hfz24_0 := blk_frozen BK242.out 0; have hfz24_1 := blk_frozen BK242.out 1; have hfz24_2 := blk_frozen BK242.out 2; have hfz24_3 := blk_frozen BK242.out 3; have hfz24_4 := blk_frozen BK242.out 4))
         (try simp only [Act.put, List.setIfInBounds_toArray, List.set_cons_zero, List.set_cons_succ])
         go_cut [57] (fun v57 wc => ∃ (kq : Nat) (x57_17 : Bool), v57 = .bool x57_17 ∧ Aside0 (cartoucheref13_enc.j2 kq (l1_1.length : Int) x6_2 x57_17 l0_0 l1_0 l1_1 l1_2 ((rd_T35 l1_1 x6_2).f0) ((rd_T35 l1_1 x6_2).f1) ((rd_T35 l1_1 x6_2).f2) ((rd_T35 l1_1 x6_2).f3) ((rd_T35 l1_1 x6_2).f4) = some r) ∧ Aside0 (kq ≤ k2) ∧ Aside0 (wc.heap[gb238]? = some (.cells #[(.slice A0_0 l0_0.length c0_0)] 24 (0, 0))) ∧ Aside0 (wc.heap[gb239]? = some (.cells #[(.slice A1_0 l1_0.length c1_0), (.slice (some ad241) l1_1.length c1_1), (.slice A1_2 l1_2.length c1_2)] 30 (0, 0))) ∧ Aside0 (wc.heap[gb242]? = some (.cells #[.int .i64 ((rd_T35 l1_1 x6_2).f0), .int .i64 ((rd_T35 l1_1 x6_2).f1), .int .i64 ((rd_T35 l1_1 x6_2).f2), .int .i64 ((rd_T35 l1_1 x6_2).f3), .int .i64 ((rd_T35 l1_1 x6_2).f4)] 35 (0, 0))) ∧ Aside0 (Below w.heap.size w wc))
         case first =>
          have H := HC18.out
          clear HC18
          by_cases c25 : ((rd_T35 l1_1 x6_2).f0) < 16
          ·rw [if_pos c25] at H
           have c25b0 : decide (((rd_T35 l1_1 x6_2).f0) < 16) = true := decide_eq_true c25
           clear c25
           (first | rw [c25b0] | (simp only [i64_w, i32_w]; rw [c25b0]) | skip)
           have H' := Aside0.mk H
           clear H
           have hnb26 := NB242_238.out
           have hnc26 := NB238_242.out
           have hnb27 := NB242_239.out
           have hnc27 := NB239_242.out
           have hcz28_0 : w21.cell? ⟨gb242, 0, none⟩ = some (.int .i64 0) := (blk_cell BK242.out 0).trans rfl
           have hcz28_1 : w21.cell? ⟨gb242, 1, none⟩ = some (.int .i64 0) := (blk_cell BK242.out 1).trans rfl
           have hcz28_2 : w21.cell? ⟨gb242, 2, none⟩ = some (.int .i64 0) := (blk_cell BK242.out 2).trans rfl
           have hcz28_3 : w21.cell? ⟨gb242, 3, none⟩ = some (.int .i64 0) := (blk_cell BK242.out 3).trans rfl
           have hcz28_4 : w21.cell? ⟨gb242, 4, none⟩ = some (.int .i64 0) := (blk_cell BK242.out 4).trans rfl
           have hfz28_0 := blk_frozen BK242.out 0
           have hfz28_1 := blk_frozen BK242.out 1
           have hfz28_2 := blk_frozen BK242.out 2
           have hfz28_3 := blk_frozen BK242.out 3
           have hfz28_4 := blk_frozen BK242.out 4
           go_wp2
           go_meet
           case rel => exact ⟨_, (true), (by first | rfl | (simp; done) | (simp [*]; done)), H', ⟨by have := HJ2.out; have := HK2.out; first | omega | exact Nat.le_refl _⟩, ⟨by (with_reducible repeat (first | refine blk_drewN ?_ _ | refine blk_drew ?_ | refine blk_alloc ?_ _)); refine blk_far ?_ NB238_242.out _; (with_reducible repeat (first | refine blk_drewN ?_ _ | refine blk_drew ?_ | refine blk_alloc ?_ _)); refine blk_far ?_ NB238_242.out _; (with_reducible repeat (first | refine blk_drewN ?_ _ | refine blk_drew ?_ | refine blk_alloc ?_ _)); refine blk_far ?_ NB238_242.out _; (with_reducible repeat (first | refine blk_drewN ?_ _ | refine blk_drew ?_ | refine blk_alloc ?_ _)); refine blk_far ?_ NB238_242.out _; (with_reducible repeat (first | refine blk_drewN ?_ _ | refine blk_drew ?_ | refine blk_alloc ?_ _)); refine blk_far ?_ NB238_242.out _; (with_reducible repeat (first | refine blk_drewN ?_ _ | refine blk_drew ?_ | refine blk_alloc ?_ _)); exact BK238.out⟩, ⟨by (with_reducible repeat (first | refine blk_drewN ?_ _ | refine blk_drew ?_ | refine blk_alloc ?_ _)); refine blk_far ?_ NB239_242.out _; (with_reducible repeat (first | refine blk_drewN ?_ _ | refine blk_drew ?_ | refine blk_alloc ?_ _)); refine blk_far ?_ NB239_242.out _; (with_reducible repeat (first | refine blk_drewN ?_ _ | refine blk_drew ?_ | refine blk_alloc ?_ _)); refine blk_far ?_ NB239_242.out _; (with_reducible repeat (first | refine blk_drewN ?_ _ | refine blk_drew ?_ | refine blk_alloc ?_ _)); refine blk_far ?_ NB239_242.out _; (with_reducible repeat (first | refine blk_drewN ?_ _ | refine blk_drew ?_ | refine blk_alloc ?_ _)); refine blk_far ?_ NB239_242.out _; (with_reducible repeat (first | refine blk_drewN ?_ _ | refine blk_drew ?_ | refine blk_alloc ?_ _)); exact BK239.out⟩, ⟨by (with_reducible repeat (first | refine blk_drewN ?_ _ | refine blk_drew ?_ | refine blk_alloc ?_ _)); refine blk_put (cs := #[.int .i64 ((rd_T35 l1_1 x6_2).f0), .int .i64 ((rd_T35 l1_1 x6_2).f1), .int .i64 ((rd_T35 l1_1 x6_2).f2), .int .i64 ((rd_T35 l1_1 x6_2).f3), .int .i64 0]) ?_ 4 _ rfl; (with_reducible repeat (first | refine blk_drewN ?_ _ | refine blk_drew ?_ | refine blk_alloc ?_ _)); refine blk_put (cs := #[.int .i64 ((rd_T35 l1_1 x6_2).f0), .int .i64 ((rd_T35 l1_1 x6_2).f1), .int .i64 ((rd_T35 l1_1 x6_2).f2), .int .i64 0, .int .i64 0]) ?_ 3 _ rfl; (with_reducible repeat (first | refine blk_drewN ?_ _ | refine blk_drew ?_ | refine blk_alloc ?_ _)); refine blk_put (cs := #[.int .i64 ((rd_T35 l1_1 x6_2).f0), .int .i64 ((rd_T35 l1_1 x6_2).f1), .int .i64 0, .int .i64 0, .int .i64 0]) ?_ 2 _ rfl; (with_reducible repeat (first | refine blk_drewN ?_ _ | refine blk_drew ?_ | refine blk_alloc ?_ _)); refine blk_put (cs := #[.int .i64 ((rd_T35 l1_1 x6_2).f0), .int .i64 0, .int .i64 0, .int .i64 0, .int .i64 0]) ?_ 1 _ rfl; (with_reducible repeat (first | refine blk_drewN ?_ _ | refine blk_drew ?_ | refine blk_alloc ?_ _)); refine blk_put (cs := #[.int .i64 0, .int .i64 0, .int .i64 0, .int .i64 0, .int .i64 0]) ?_ 0 _ rfl; (with_reducible repeat (first | refine blk_drewN ?_ _ | refine blk_drew ?_ | refine blk_alloc ?_ _)); exact BK242.out⟩, ⟨by repeat (first | (with_reducible first | exact HB.out | apply below_alloc | apply pw_below_drewN | apply below_drew1 | refine below_set ?_ GE238.out | refine below_set ?_ GE239.out | refine below_set ?_ GE242.out) | exact HB.out)⟩⟩
          ·rw [if_neg c25] at H
           have c25b0 : decide (((rd_T35 l1_1 x6_2).f0) < 16) = false := decide_eq_false c25
           clear c25
           (first | rw [c25b0] | (simp only [i64_w, i32_w]; rw [c25b0]) | skip)
           by_cases c29 : ((rd_T35 l1_1 x6_2).f0) > 25
           ·rw [if_pos c29] at H
            have c29b0 : decide (25 < ((rd_T35 l1_1 x6_2).f0)) = true := decide_eq_true c29
            clear c29
            have H' := Aside0.mk H
            clear H
            have hnb30 := NB242_238.out
            have hnc30 := NB238_242.out
            have hnb31 := NB242_239.out
            have hnc31 := NB239_242.out
            have hcz32_0 : w21.cell? ⟨gb242, 0, none⟩ = some (.int .i64 0) := (blk_cell BK242.out 0).trans rfl
            have hcz32_1 : w21.cell? ⟨gb242, 1, none⟩ = some (.int .i64 0) := (blk_cell BK242.out 1).trans rfl
            have hcz32_2 : w21.cell? ⟨gb242, 2, none⟩ = some (.int .i64 0) := (blk_cell BK242.out 2).trans rfl
            have hcz32_3 : w21.cell? ⟨gb242, 3, none⟩ = some (.int .i64 0) := (blk_cell BK242.out 3).trans rfl
            have hcz32_4 : w21.cell? ⟨gb242, 4, none⟩ = some (.int .i64 0) := (blk_cell BK242.out 4).trans rfl
            have hfz32_0 := blk_frozen BK242.out 0
            have hfz32_1 := blk_frozen BK242.out 1
            have hfz32_2 := blk_frozen BK242.out 2
            have hfz32_3 := blk_frozen BK242.out 3
            have hfz32_4 := blk_frozen BK242.out 4
            go_wp2
            go_meet
            case rel => exact ⟨_, (true), (by first | rfl | (simp; done) | (simp [*]; done)), H', ⟨by have := HJ2.out; have := HK2.out; first | omega | exact Nat.le_refl _⟩, ⟨by (with_reducible repeat (first | refine blk_drewN ?_ _ | refine blk_drew ?_ | refine blk_alloc ?_ _)); refine blk_far ?_ NB238_242.out _; (with_reducible repeat (first | refine blk_drewN ?_ _ | refine blk_drew ?_ | refine blk_alloc ?_ _)); refine blk_far ?_ NB238_242.out _; (with_reducible repeat (first | refine blk_drewN ?_ _ | refine blk_drew ?_ | refine blk_alloc ?_ _)); refine blk_far ?_ NB238_242.out _; (with_reducible repeat (first | refine blk_drewN ?_ _ | refine blk_drew ?_ | refine blk_alloc ?_ _)); refine blk_far ?_ NB238_242.out _; (with_reducible repeat (first | refine blk_drewN ?_ _ | refine blk_drew ?_ | refine blk_alloc ?_ _)); refine blk_far ?_ NB238_242.out _; (with_reducible repeat (first | refine blk_drewN ?_ _ | refine blk_drew ?_ | refine blk_alloc ?_ _)); exact BK238.out⟩, ⟨by (with_reducible repeat (first | refine blk_drewN ?_ _ | refine blk_drew ?_ | refine blk_alloc ?_ _)); refine blk_far ?_ NB239_242.out _; (with_reducible repeat (first | refine blk_drewN ?_ _ | refine blk_drew ?_ | refine blk_alloc ?_ _)); refine blk_far ?_ NB239_242.out _; (with_reducible repeat (first | refine blk_drewN ?_ _ | refine blk_drew ?_ | refine blk_alloc ?_ _)); refine blk_far ?_ NB239_242.out _; (with_reducible repeat (first | refine blk_drewN ?_ _ | refine blk_drew ?_ | refine blk_alloc ?_ _)); refine blk_far ?_ NB239_242.out _; (with_reducible repeat (first | refine blk_drewN ?_ _ | refine blk_drew ?_ | refine blk_alloc ?_ _)); refine blk_far ?_ NB239_242.out _; (with_reducible repeat (first | refine blk_drewN ?_ _ | refine blk_drew ?_ | refine blk_alloc ?_ _)); exact BK239.out⟩, ⟨by (with_reducible repeat (first | refine blk_drewN ?_ _ | refine blk_drew ?_ | refine blk_alloc ?_ _)); refine blk_put (cs := #[.int .i64 ((rd_T35 l1_1 x6_2).f0), .int .i64 ((rd_T35 l1_1 x6_2).f1), .int .i64 ((rd_T35 l1_1 x6_2).f2), .int .i64 ((rd_T35 l1_1 x6_2).f3), .int .i64 0]) ?_ 4 _ rfl; (with_reducible repeat (first | refine blk_drewN ?_ _ | refine blk_drew ?_ | refine blk_alloc ?_ _)); refine blk_put (cs := #[.int .i64 ((rd_T35 l1_1 x6_2).f0), .int .i64 ((rd_T35 l1_1 x6_2).f1), .int .i64 ((rd_T35 l1_1 x6_2).f2), .int .i64 0, .int .i64 0]) ?_ 3 _ rfl; (with_reducible repeat (first | refine blk_drewN ?_ _ | refine blk_drew ?_ | refine blk_alloc ?_ _)); refine blk_put (cs := #[.int .i64 ((rd_T35 l1_1 x6_2).f0), .int .i64 ((rd_T35 l1_1 x6_2).f1), .int .i64 0, .int .i64 0, .int .i64 0]) ?_ 2 _ rfl; (with_reducible repeat (first | refine blk_drewN ?_ _ | refine blk_drew ?_ | refine blk_alloc ?_ _)); refine blk_put (cs := #[.int .i64 ((rd_T35 l1_1 x6_2).f0), .int .i64 0, .int .i64 0, .int .i64 0, .int .i64 0]) ?_ 1 _ rfl; (with_reducible repeat (first | refine blk_drewN ?_ _ | refine blk_drew ?_ | refine blk_alloc ?_ _)); refine blk_put (cs := #[.int .i64 0, .int .i64 0, .int .i64 0, .int .i64 0, .int .i64 0]) ?_ 0 _ rfl; (with_reducible repeat (first | refine blk_drewN ?_ _ | refine blk_drew ?_ | refine blk_alloc ?_ _)); exact BK242.out⟩, ⟨by repeat (first | (with_reducible first | exact HB.out | apply below_alloc | apply pw_below_drewN | apply below_drew1 | refine below_set ?_ GE238.out | refine below_set ?_ GE239.out | refine below_set ?_ GE242.out) | exact HB.out)⟩⟩
           ·rw [if_neg c29] at H
            have c29b0 : decide (25 < ((rd_T35 l1_1 x6_2).f0)) = false := decide_eq_false c29
            clear c29
            by_cases c33 : ((rd_T35 l1_1 x6_2).f0) = 24
            ·rw [if_pos c33] at H
             have c33b0 : (((rd_T35 l1_1 x6_2).f0) == 24) = true := beq_iff_eq.mpr c33
             have c33b1 : (((rd_T35 l1_1 x6_2).f0) != 24) = false := bne_eq_false_iff_eq.mpr c33
             clear c33
             by_cases c34 : x6_2 < (wrap64 ((l1_1.length : Int) - 1))
             ·rw [if_pos c34] at H
              have c34b0 : decide (x6_2 < (wrap64 ((l1_1.length : Int) - 1))) = true := decide_eq_true c34
              clear c34
              have H' := Aside0.mk H
              clear H
              have hnb35 := NB242_238.out
              have hnc35 := NB238_242.out
              have hnb36 := NB242_239.out
              have hnc36 := NB239_242.out
              have hcz37_0 : w21.cell? ⟨gb242, 0, none⟩ = some (.int .i64 0) := (blk_cell BK242.out 0).trans rfl
              have hcz37_1 : w21.cell? ⟨gb242, 1, none⟩ = some (.int .i64 0) := (blk_cell BK242.out 1).trans rfl
              have hcz37_2 : w21.cell? ⟨gb242, 2, none⟩ = some (.int .i64 0) := (blk_cell BK242.out 2).trans rfl
              have hcz37_3 : w21.cell? ⟨gb242, 3, none⟩ = some (.int .i64 0) := (blk_cell BK242.out 3).trans rfl
              have hcz37_4 : w21.cell? ⟨gb242, 4, none⟩ = some (.int .i64 0) := (blk_cell BK242.out 4).trans rfl
              have hfz37_0 := blk_frozen BK242.out 0
              have hfz37_1 := blk_frozen BK242.out 1
              have hfz37_2 := blk_frozen BK242.out 2
              have hfz37_3 := blk_frozen BK242.out 3
              have hfz37_4 := blk_frozen BK242.out 4
              go_wp2
              go_meet
              case rel => exact ⟨_, (true), (by first | rfl | (simp; done) | (simp [*]; done)), H', ⟨by have := HJ2.out; have := HK2.out; first | omega | exact Nat.le_refl _⟩, ⟨by (with_reducible repeat (first | refine blk_drewN ?_ _ | refine blk_drew ?_ | refine blk_alloc ?_ _)); refine blk_far ?_ NB238_242.out _; (with_reducible repeat (first | refine blk_drewN ?_ _ | refine blk_drew ?_ | refine blk_alloc ?_ _)); refine blk_far ?_ NB238_242.out _; (with_reducible repeat (first | refine blk_drewN ?_ _ | refine blk_drew ?_ | refine blk_alloc ?_ _)); refine blk_far ?_ NB238_242.out _; (with_reducible repeat (first | refine blk_drewN ?_ _ | refine blk_drew ?_ | refine blk_alloc ?_ _)); refine blk_far ?_ NB238_242.out _; (with_reducible repeat (first | refine blk_drewN ?_ _ | refine blk_drew ?_ | refine blk_alloc ?_ _)); refine blk_far ?_ NB238_242.out _; (with_reducible repeat (first | refine blk_drewN ?_ _ | refine blk_drew ?_ | refine blk_alloc ?_ _)); exact BK238.out⟩, ⟨by (with_reducible repeat (first | refine blk_drewN ?_ _ | refine blk_drew ?_ | refine blk_alloc ?_ _)); refine blk_far ?_ NB239_242.out _; (with_reducible repeat (first | refine blk_drewN ?_ _ | refine blk_drew ?_ | refine blk_alloc ?_ _)); refine blk_far ?_ NB239_242.out _; (with_reducible repeat (first | refine blk_drewN ?_ _ | refine blk_drew ?_ | refine blk_alloc ?_ _)); refine blk_far ?_ NB239_242.out _; (with_reducible repeat (first | refine blk_drewN ?_ _ | refine blk_drew ?_ | refine blk_alloc ?_ _)); refine blk_far ?_ NB239_242.out _; (with_reducible repeat (first | refine blk_drewN ?_ _ | refine blk_drew ?_ | refine blk_alloc ?_ _)); refine blk_far ?_ NB239_242.out _; (with_reducible repeat (first | refine blk_drewN ?_ _ | refine blk_drew ?_ | refine blk_alloc ?_ _)); exact BK239.out⟩, ⟨by (with_reducible repeat (first | refine blk_drewN ?_ _ | refine blk_drew ?_ | refine blk_alloc ?_ _)); refine blk_put (cs := #[.int .i64 ((rd_T35 l1_1 x6_2).f0), .int .i64 ((rd_T35 l1_1 x6_2).f1), .int .i64 ((rd_T35 l1_1 x6_2).f2), .int .i64 ((rd_T35 l1_1 x6_2).f3), .int .i64 0]) ?_ 4 _ rfl; (with_reducible repeat (first | refine blk_drewN ?_ _ | refine blk_drew ?_ | refine blk_alloc ?_ _)); refine blk_put (cs := #[.int .i64 ((rd_T35 l1_1 x6_2).f0), .int .i64 ((rd_T35 l1_1 x6_2).f1), .int .i64 ((rd_T35 l1_1 x6_2).f2), .int .i64 0, .int .i64 0]) ?_ 3 _ rfl; (with_reducible repeat (first | refine blk_drewN ?_ _ | refine blk_drew ?_ | refine blk_alloc ?_ _)); refine blk_put (cs := #[.int .i64 ((rd_T35 l1_1 x6_2).f0), .int .i64 ((rd_T35 l1_1 x6_2).f1), .int .i64 0, .int .i64 0, .int .i64 0]) ?_ 2 _ rfl; (with_reducible repeat (first | refine blk_drewN ?_ _ | refine blk_drew ?_ | refine blk_alloc ?_ _)); refine blk_put (cs := #[.int .i64 ((rd_T35 l1_1 x6_2).f0), .int .i64 0, .int .i64 0, .int .i64 0, .int .i64 0]) ?_ 1 _ rfl; (with_reducible repeat (first | refine blk_drewN ?_ _ | refine blk_drew ?_ | refine blk_alloc ?_ _)); refine blk_put (cs := #[.int .i64 0, .int .i64 0, .int .i64 0, .int .i64 0, .int .i64 0]) ?_ 0 _ rfl; (with_reducible repeat (first | refine blk_drewN ?_ _ | refine blk_drew ?_ | refine blk_alloc ?_ _)); exact BK242.out⟩, ⟨by repeat (first | (with_reducible first | exact HB.out | apply below_alloc | apply pw_below_drewN | apply below_drew1 | refine below_set ?_ GE238.out | refine below_set ?_ GE239.out | refine below_set ?_ GE242.out) | exact HB.out)⟩⟩
             ·rw [if_neg c34] at H
              have c34b0 : decide (x6_2 < (wrap64 ((l1_1.length : Int) - 1))) = false := decide_eq_false c34
              clear c34
              replace H := Option.bind_eq_some_iff.mp H
              obtain ⟨t243, A380, H⟩ := H
              replace H : (cartoucheref13_enc.j2 k2 (l1_1.length : Int) x6_2 (!t243) l0_0 l1_0 l1_1 l1_2 ((rd_T35 l1_1 x6_2).f0) ((rd_T35 l1_1 x6_2).f1) ((rd_T35 l1_1 x6_2).f2) ((rd_T35 l1_1 x6_2).f3) ((rd_T35 l1_1 x6_2).f4)) = some r := H
              have A38 := Aside0.mk A380
              clear A380
              have H' := Aside0.mk H
              clear H
              have hnb39 := NB242_238.out
              have hnc39 := NB238_242.out
              have hnb40 := NB242_239.out
              have hnc40 := NB239_242.out
              have hcz41_0 : w21.cell? ⟨gb242, 0, none⟩ = some (.int .i64 0) := (blk_cell BK242.out 0).trans rfl
              have hcz41_1 : w21.cell? ⟨gb242, 1, none⟩ = some (.int .i64 0) := (blk_cell BK242.out 1).trans rfl
              have hcz41_2 : w21.cell? ⟨gb242, 2, none⟩ = some (.int .i64 0) := (blk_cell BK242.out 2).trans rfl
              have hcz41_3 : w21.cell? ⟨gb242, 3, none⟩ = some (.int .i64 0) := (blk_cell BK242.out 3).trans rfl
              have hcz41_4 : w21.cell? ⟨gb242, 4, none⟩ = some (.int .i64 0) := (blk_cell BK242.out 4).trans rfl
              have hfz41_0 := blk_frozen BK242.out 0
              have hfz41_1 := blk_frozen BK242.out 1
              have hfz41_2 := blk_frozen BK242.out 2
              have hfz41_3 := blk_frozen BK242.out 3
              have hfz41_4 := blk_frozen BK242.out 4
              have hnb42 := NB238_239.out
              have hnc42 := NB239_238.out
              have hcz43_0 : w21.cell? ⟨gb238, 0, none⟩ = some (.slice A0_0 l0_0.length c0_0) := (blk_cell BK238.out 0).trans rfl
              have hfz43_0 := blk_frozen BK238.out 0
              go_wp2_with (first | (go_at_call 52; (with_reducible refine (cartoucheref13_numbers.calls _ _ l0_0 ((rd_T35 l1_1 x6_2).f0) ((rd_T35 l1_1 x6_2).f1) ((rd_T35 l1_1 x6_2).f2) ((rd_T35 l1_1 x6_2).f3) ((rd_T35 l1_1 x6_2).f4) t243 _ ?side1 ?side2 A38.out).mono ?_); (case side1 => exact Kd.C_below HR0_0.out (by repeat (first | (with_reducible first | exact HB.out | apply below_alloc | apply pw_below_drewN | apply below_drew1 | refine below_set ?_ GE238.out | refine below_set ?_ GE239.out | refine below_set ?_ GE242.out) | exact HB.out))); (case side2 => exact HC0_0.out); rintro e w44 ⟨rfl, hb⟩; have n0_ := Aside0.mk (blk_below (g := gb238) (o := .cells #[.slice A0_0 l0_0.length c0_0] 24 (0, 0)) (by (with_reducible repeat (first | refine blk_drewN ?_ _ | refine blk_drew ?_ | refine blk_alloc ?_ _)); refine blk_far ?_ NB238_242.out _; (with_reducible repeat (first | refine blk_drewN ?_ _ | refine blk_drew ?_ | refine blk_alloc ?_ _)); refine blk_far ?_ NB238_242.out _; (with_reducible repeat (first | refine blk_drewN ?_ _ | refine blk_drew ?_ | refine blk_alloc ?_ _)); refine blk_far ?_ NB238_242.out _; (with_reducible repeat (first | refine blk_drewN ?_ _ | refine blk_drew ?_ | refine blk_alloc ?_ _)); refine blk_far ?_ NB238_242.out _; (with_reducible repeat (first | refine blk_drewN ?_ _ | refine blk_drew ?_ | refine blk_alloc ?_ _)); refine blk_far ?_ NB238_242.out _; (with_reducible repeat (first | refine blk_drewN ?_ _ | refine blk_drew ?_ | refine blk_alloc ?_ _)); exact BK238.out) hb); have n1_ := Aside0.mk (blk_below (g := gb239) (o := .cells #[.slice A1_0 l1_0.length c1_0, .slice (some ad241) l1_1.length c1_1, .slice A1_2 l1_2.length c1_2] 30 (0, 0)) (by (with_reducible repeat (first | refine blk_drewN ?_ _ | refine blk_drew ?_ | refine blk_alloc ?_ _)); refine blk_far ?_ NB239_242.out _; (with_reducible repeat (first | refine blk_drewN ?_ _ | refine blk_drew ?_ | refine blk_alloc ?_ _)); refine blk_far ?_ NB239_242.out _; (with_reducible repeat (first | refine blk_drewN ?_ _ | refine blk_drew ?_ | refine blk_alloc ?_ _)); refine blk_far ?_ NB239_242.out _; (with_reducible repeat (first | refine blk_drewN ?_ _ | refine blk_drew ?_ | refine blk_alloc ?_ _)); refine blk_far ?_ NB239_242.out _; (with_reducible repeat (first | refine blk_drewN ?_ _ | refine blk_drew ?_ | refine blk_alloc ?_ _)); refine blk_far ?_ NB239_242.out _; (with_reducible repeat (first | refine blk_drewN ?_ _ | refine blk_drew ?_ | refine blk_alloc ?_ _)); exact BK239.out) hb); have n2_ := Aside0.mk (blk_below (g := gb242) (o := .cells #[.int .i64 ((rd_T35 l1_1 x6_2).f0), .int .i64 ((rd_T35 l1_1 x6_2).f1), .int .i64 ((rd_T35 l1_1 x6_2).f2), .int .i64 ((rd_T35 l1_1 x6_2).f3), .int .i64 ((rd_T35 l1_1 x6_2).f4)] 35 (0, 0)) (by (with_reducible repeat (first | refine blk_drewN ?_ _ | refine blk_drew ?_ | refine blk_alloc ?_ _)); refine blk_put (cs := #[.int .i64 ((rd_T35 l1_1 x6_2).f0), .int .i64 ((rd_T35 l1_1 x6_2).f1), .int .i64 ((rd_T35 l1_1 x6_2).f2), .int .i64 ((rd_T35 l1_1 x6_2).f3), .int .i64 0]) ?_ 4 _ rfl; (with_reducible repeat (first | refine blk_drewN ?_ _ | refine blk_drew ?_ | refine blk_alloc ?_ _)); refine blk_put (cs := #[.int .i64 ((rd_T35 l1_1 x6_2).f0), .int .i64 ((rd_T35 l1_1 x6_2).f1), .int .i64 ((rd_T35 l1_1 x6_2).f2), .int .i64 0, .int .i64 0]) ?_ 3 _ rfl; (with_reducible repeat (first | refine blk_drewN ?_ _ | refine blk_drew ?_ | refine blk_alloc ?_ _)); refine blk_put (cs := #[.int .i64 ((rd_T35 l1_1 x6_2).f0), .int .i64 ((rd_T35 l1_1 x6_2).f1), .int .i64 0, .int .i64 0, .int .i64 0]) ?_ 2 _ rfl; (with_reducible repeat (first | refine blk_drewN ?_ _ | refine blk_drew ?_ | refine blk_alloc ?_ _)); refine blk_put (cs := #[.int .i64 ((rd_T35 l1_1 x6_2).f0), .int .i64 0, .int .i64 0, .int .i64 0, .int .i64 0]) ?_ 1 _ rfl; (with_reducible repeat (first | refine blk_drewN ?_ _ | refine blk_drew ?_ | refine blk_alloc ?_ _)); refine blk_put (cs := #[.int .i64 0, .int .i64 0, .int .i64 0, .int .i64 0, .int .i64 0]) ?_ 0 _ rfl; (with_reducible repeat (first | refine blk_drewN ?_ _ | refine blk_drew ?_ | refine blk_alloc ?_ _)); exact BK242.out) hb); have n3_ := Aside0.mk (below_step (by repeat (first | (with_reducible first | exact HB.out | apply below_alloc | apply pw_below_drewN | apply below_drew1 | refine below_set ?_ GE238.out | refine below_set ?_ GE239.out | refine below_set ?_ GE242.out) | exact HB.out)) hb); clear BK238; clear BK239; clear BK242; clear HB; have BK238 := n0_; have BK239 := n1_; have BK242 := n2_; have HB := n3_; clear n0_ n1_ n2_ n3_; (try clear hb); (try clear hb2); (try clear hk); (try clear hi)))
              go_meet
              case rel => exact ⟨_, (!t243), (by first | rfl | (simp; done) | (simp [*]; done)), H', ⟨by have := HJ2.out; have := HK2.out; first | omega | exact Nat.le_refl _⟩, ⟨by (with_reducible repeat (first | refine blk_drewN ?_ _ | refine blk_drew ?_ | refine blk_alloc ?_ _)); exact BK238.out⟩, ⟨by (with_reducible repeat (first | refine blk_drewN ?_ _ | refine blk_drew ?_ | refine blk_alloc ?_ _)); exact BK239.out⟩, ⟨by (with_reducible repeat (first | refine blk_drewN ?_ _ | refine blk_drew ?_ | refine blk_alloc ?_ _)); exact BK242.out⟩, ⟨by repeat (first | (with_reducible first | exact HB.out | apply below_alloc | apply pw_below_drewN | apply below_drew1 | refine below_set ?_ GE238.out | refine below_set ?_ GE239.out | refine below_set ?_ GE242.out) | exact HB.out)⟩⟩
            ·rw [if_neg c33] at H
             have c33b0 : (((rd_T35 l1_1 x6_2).f0) == 24) = false := beq_eq_false_iff_ne.mpr c33
             have c33b1 : (((rd_T35 l1_1 x6_2).f0) != 24) = true := bne_iff_ne.mpr c33
             replace H := Option.bind_eq_some_iff.mp H
             obtain ⟨t244, A450, H⟩ := H
             replace H : (cartoucheref13_enc.j2 k2 (l1_1.length : Int) x6_2 (!t244) l0_0 l1_0 l1_1 l1_2 ((rd_T35 l1_1 x6_2).f0) ((rd_T35 l1_1 x6_2).f1) ((rd_T35 l1_1 x6_2).f2) ((rd_T35 l1_1 x6_2).f3) ((rd_T35 l1_1 x6_2).f4)) = some r := H
             have A45 := Aside0.mk A450
             clear A450
             have H' := Aside0.mk H
             clear H
             have hnb46 := NB242_238.out
             have hnc46 := NB238_242.out
             have hnb47 := NB242_239.out
             have hnc47 := NB239_242.out
             have hcz48_0 : w21.cell? ⟨gb242, 0, none⟩ = some (.int .i64 0) := (blk_cell BK242.out 0).trans rfl
             have hcz48_1 : w21.cell? ⟨gb242, 1, none⟩ = some (.int .i64 0) := (blk_cell BK242.out 1).trans rfl
             have hcz48_2 : w21.cell? ⟨gb242, 2, none⟩ = some (.int .i64 0) := (blk_cell BK242.out 2).trans rfl
             have hcz48_3 : w21.cell? ⟨gb242, 3, none⟩ = some (.int .i64 0) := (blk_cell BK242.out 3).trans rfl
             have hcz48_4 : w21.cell? ⟨gb242, 4, none⟩ = some (.int .i64 0) := (blk_cell BK242.out 4).trans rfl
             have hfz48_0 := blk_frozen BK242.out 0
             have hfz48_1 := blk_frozen BK242.out 1
             have hfz48_2 := blk_frozen BK242.out 2
             have hfz48_3 := blk_frozen BK242.out 3
             have hfz48_4 := blk_frozen BK242.out 4
             have hnb49 := NB238_239.out
             have hnc49 := NB239_238.out
             have hcz50_0 : w21.cell? ⟨gb238, 0, none⟩ = some (.slice A0_0 l0_0.length c0_0) := (blk_cell BK238.out 0).trans rfl
             have hfz50_0 := blk_frozen BK238.out 0
             go_wp2_with (first | (go_at_call 52; (with_reducible refine (cartoucheref13_numbers.calls _ _ l0_0 ((rd_T35 l1_1 x6_2).f0) ((rd_T35 l1_1 x6_2).f1) ((rd_T35 l1_1 x6_2).f2) ((rd_T35 l1_1 x6_2).f3) ((rd_T35 l1_1 x6_2).f4) t244 _ ?side1 ?side2 A45.out).mono ?_); (case side1 => exact Kd.C_below HR0_0.out (by repeat (first | (with_reducible first | exact HB.out | apply below_alloc | apply pw_below_drewN | apply below_drew1 | refine below_set ?_ GE238.out | refine below_set ?_ GE239.out | refine below_set ?_ GE242.out) | exact HB.out))); (case side2 => exact HC0_0.out); rintro e w51 ⟨rfl, hb⟩; have n0_ := Aside0.mk (blk_below (g := gb238) (o := .cells #[.slice A0_0 l0_0.length c0_0] 24 (0, 0)) (by (with_reducible repeat (first | refine blk_drewN ?_ _ | refine blk_drew ?_ | refine blk_alloc ?_ _)); refine blk_far ?_ NB238_242.out _; (with_reducible repeat (first | refine blk_drewN ?_ _ | refine blk_drew ?_ | refine blk_alloc ?_ _)); refine blk_far ?_ NB238_242.out _; (with_reducible repeat (first | refine blk_drewN ?_ _ | refine blk_drew ?_ | refine blk_alloc ?_ _)); refine blk_far ?_ NB238_242.out _; (with_reducible repeat (first | refine blk_drewN ?_ _ | refine blk_drew ?_ | refine blk_alloc ?_ _)); refine blk_far ?_ NB238_242.out _; (with_reducible repeat (first | refine blk_drewN ?_ _ | refine blk_drew ?_ | refine blk_alloc ?_ _)); refine blk_far ?_ NB238_242.out _; (with_reducible repeat (first | refine blk_drewN ?_ _ | refine blk_drew ?_ | refine blk_alloc ?_ _)); exact BK238.out) hb); have n1_ := Aside0.mk (blk_below (g := gb239) (o := .cells #[.slice A1_0 l1_0.length c1_0, .slice (some ad241) l1_1.length c1_1, .slice A1_2 l1_2.length c1_2] 30 (0, 0)) (by (with_reducible repeat (first | refine blk_drewN ?_ _ | refine blk_drew ?_ | refine blk_alloc ?_ _)); refine blk_far ?_ NB239_242.out _; (with_reducible repeat (first | refine blk_drewN ?_ _ | refine blk_drew ?_ | refine blk_alloc ?_ _)); refine blk_far ?_ NB239_242.out _; (with_reducible repeat (first | refine blk_drewN ?_ _ | refine blk_drew ?_ | refine blk_alloc ?_ _)); refine blk_far ?_ NB239_242.out _; (with_reducible repeat (first | refine blk_drewN ?_ _ | refine blk_drew ?_ | refine blk_alloc ?_ _)); refine blk_far ?_ NB239_242.out _; (with_reducible repeat (first | refine blk_drewN ?_ _ | refine blk_drew ?_ | refine blk_alloc ?_ _)); refine blk_far ?_ NB239_242.out _; (with_reducible repeat (first | refine blk_drewN ?_ _ | refine blk_drew ?_ | refine blk_alloc ?_ _)); exact BK239.out) hb); have n2_ := Aside0.mk (blk_below (g := gb242) (o := .cells #[.int .i64 ((rd_T35 l1_1 x6_2).f0), .int .i64 ((rd_T35 l1_1 x6_2).f1), .int .i64 ((rd_T35 l1_1 x6_2).f2), .int .i64 ((rd_T35 l1_1 x6_2).f3), .int .i64 ((rd_T35 l1_1 x6_2).f4)] 35 (0, 0)) (by (with_reducible repeat (first | refine blk_drewN ?_ _ | refine blk_drew ?_ | refine blk_alloc ?_ _)); refine blk_put (cs := #[.int .i64 ((rd_T35 l1_1 x6_2).f0), .int .i64 ((rd_T35 l1_1 x6_2).f1), .int .i64 ((rd_T35 l1_1 x6_2).f2), .int .i64 ((rd_T35 l1_1 x6_2).f3), .int .i64 0]) ?_ 4 _ rfl; (with_reducible repeat (first | refine blk_drewN ?_ _ | refine blk_drew ?_ | refine blk_alloc ?_ _)); refine blk_put (cs := #[.int .i64 ((rd_T35 l1_1 x6_2).f0), .int .i64 ((rd_T35 l1_1 x6_2).f1), .int .i64 ((rd_T35 l1_1 x6_2).f2), .int .i64 0, .int .i64 0]) ?_ 3 _ rfl; (with_reducible repeat (first | refine blk_drewN ?_ _ | refine blk_drew ?_ | refine blk_alloc ?_ _)); refine blk_put (cs := #[.int .i64 ((rd_T35 l1_1 x6_2).f0), .int .i64 ((rd_T35 l1_1 x6_2).f1), .int .i64 0, .int .i64 0, .int .i64 0]) ?_ 2 _ rfl; (with_reducible repeat (first | refine blk_drewN ?_ _ | refine blk_drew ?_ | refine blk_alloc ?_ _)); refine blk_put (cs := #[.int .i64 ((rd_T35 l1_1 x6_2).f0), .int .i64 0, .int .i64 0, .int .i64 0, .int .i64 0]) ?_ 1 _ rfl; (with_reducible repeat (first | refine blk_drewN ?_ _ | refine blk_drew ?_ | refine blk_alloc ?_ _)); refine blk_put (cs := #[.int .i64 0, .int .i64 0, .int .i64 0, .int .i64 0, .int .i64 0]) ?_ 0 _ rfl; (with_reducible repeat (first | refine blk_drewN ?_ _ | refine blk_drew ?_ | refine blk_alloc ?_ _)); exact BK242.out) hb); have n3_ := Aside0.mk (below_step (by repeat (first | (with_reducible first | exact HB.out | apply below_alloc | apply pw_below_drewN | apply below_drew1 | refine below_set ?_ GE238.out | refine below_set ?_ GE239.out | refine below_set ?_ GE242.out) | exact HB.out)) hb); clear BK238; clear BK239; clear BK242; clear HB; have BK238 := n0_; have BK239 := n1_; have BK242 := n2_; have HB := n3_; clear n0_ n1_ n2_ n3_; (try clear hb); (try clear hb2); (try clear hk); (try clear hi)))
             go_meet
             case rel => exact ⟨_, (!t244), (by first | rfl | (simp; done) | (simp [*]; done)), H', ⟨by have := HJ2.out; have := HK2.out; first | omega | exact Nat.le_refl _⟩, ⟨by (with_reducible repeat (first | refine blk_drewN ?_ _ | refine blk_drew ?_ | refine blk_alloc ?_ _)); exact BK238.out⟩, ⟨by (with_reducible repeat (first | refine blk_drewN ?_ _ | refine blk_drew ?_ | refine blk_alloc ?_ _)); exact BK239.out⟩, ⟨by (with_reducible repeat (first | refine blk_drewN ?_ _ | refine blk_drew ?_ | refine blk_alloc ?_ _)); exact BK242.out⟩, ⟨by repeat (first | (with_reducible first | exact HB.out | apply below_alloc | apply pw_below_drewN | apply below_drew1 | refine below_set ?_ GE238.out | refine below_set ?_ GE239.out | refine below_set ?_ GE242.out) | exact HB.out)⟩⟩
         case rest =>
          clear HC18
          try clear c1
          try clear c2
          try clear p2
          try clear q2
          try clear hx2
          try clear c3
          try clear c4
          try clear c6
          try clear p6
          try clear c8
          try clear c8b0
          try clear c8b1
          try clear c8b2
          try clear c10
          try clear c10b0
          try clear c11
          try clear c11b0
          try clear c12
          try clear c14
          try clear c15
          try clear c15b0
          try clear c16
          try clear c16b0
          try clear c17
          try clear c17b0
          try clear c19
          try clear c22
          try clear c23
          try clear p24
          try clear q24
          try clear hx24
          try clear c25
          try clear c25b0
          try clear c26
          try clear c27
          try clear c29
          try clear c29b0
          try clear c30
          try clear c31
          try clear c32
          try clear c33
          try clear c33b0
          try clear c33b1
          try clear c34
          try clear c34b0
          try clear c35
          try clear c36
          try clear c39
          try clear c40
          try clear c42
          try clear c46
          try clear c47
          try clear c49
          try clear hcz13_0
          try clear hcz13_1
          try clear hcz13_2
          try clear hcz20_0
          try clear hcz20_1
          try clear hcz20_2
          try clear hcz24_0
          try clear hcz24_1
          try clear hcz24_2
          try clear hcz24_3
          try clear hcz24_4
          try clear hcz28_0
          try clear hcz28_1
          try clear hcz28_2
          try clear hcz28_3
          try clear hcz28_4
          try clear hcz32_0
          try clear hcz32_1
          try clear hcz32_2
          try clear hcz32_3
          try clear hcz32_4
          try clear hcz37_0
          try clear hcz37_1
          try clear hcz37_2
          try clear hcz37_3
          try clear hcz37_4
          try clear hcz41_0
          try clear hcz41_1
          try clear hcz41_2
          try clear hcz41_3
          try clear hcz41_4
          try clear hcz43_0
          try clear hcz48_0
          try clear hcz48_1
          try clear hcz48_2
          try clear hcz48_3
          try clear hcz48_4
          try clear hcz50_0
          try clear hcz7_0
          try clear hcz7_1
          try clear hcz7_2
          try clear hfz13_0
          try clear hfz13_1
          try clear hfz13_2
          try clear hfz20_0
          try clear hfz20_1
          try clear hfz20_2
          try clear hfz24_0
          try clear hfz24_1
          try clear hfz24_2
          try clear hfz24_3
          try clear hfz24_4
          try clear hfz28_0
          try clear hfz28_1
          try clear hfz28_2
          try clear hfz28_3
          try clear hfz28_4
          try clear hfz32_0
          try clear hfz32_1
          try clear hfz32_2
          try clear hfz32_3
          try clear hfz32_4
          try clear hfz37_0
          try clear hfz37_1
          try clear hfz37_2
          try clear hfz37_3
          try clear hfz37_4
          try clear hfz41_0
          try clear hfz41_1
          try clear hfz41_2
          try clear hfz41_3
          try clear hfz41_4
          try clear hfz43_0
          try clear hfz48_0
          try clear hfz48_1
          try clear hfz48_2
          try clear hfz48_3
          try clear hfz48_4
          try clear hfz50_0
          try clear hfz7_0
          try clear hfz7_1
          try clear hfz7_2
          try clear hx240_0
          try clear hx240_1
          try clear hx240_2
          try clear hx240_3
          try clear hx240_4
          try clear hx241_0
          try clear hx241_1
          try clear hx241_2
          try clear hx241_3
          try clear hx241_4
          try clear p2
          try clear p240
          try clear p241
          try clear p6
          try clear q2
          try clear q240
          try clear q241
          obtain ⟨kq, x57_17, rfl, HA, HJ17, BK238, BK239, BK242, HB⟩ := hcut
          cases kq with
          | zero => exact absurd HA.out (by simp [cartoucheref13_enc.j2])
          | succ kj17 =>
           have H := HA.out
           clear HA
           simp only [cartoucheref13_enc.j2] at H
           by_cases c52 : x57_17 = true
           ·subst c52
            have H1 : (some false) = some r := by rw [if_pos rfl] at H; exact H
            clear H
            have H := H1
            clear H1
            obtain rfl := Option.some.inj H
            go_wp2
            go_ret
            exact ⟨by first | rfl | (simp [errW_none, errW_some] <;> rfl) | (simp [*, errW_none, errW_some] <;> rfl), by repeat (first | (with_reducible first | exact HB.out | apply below_alloc | apply pw_below_drewN | apply below_drew1 | refine below_set ?_ GE238.out | refine below_set ?_ GE239.out | refine below_set ?_ GE242.out) | exact HB.out)⟩
           ·replace c52 := Bool.eq_false_iff.mpr c52
            subst c52
            have H1 : (if ((rd_T35 l1_1 x6_2).f0) = 16 then (if ((rd_T35 l1_1 x6_2).f2) ≤ x6_2 then (some false) else (if ((rd_T35 l1_1 x6_2).f2) ≥ (l1_1.length : Int) then (some false) else (cartoucheref13_enc.l0 kj17 (l1_1.length : Int) (wrap64 (x6_2 + 1)) l0_0 l1_0 l1_1 l1_2))) else (cartoucheref13_enc.l0 kj17 (l1_1.length : Int) (wrap64 (x6_2 + 1)) l0_0 l1_0 l1_1 l1_2)) = some r := by rw [if_neg (show ¬ (false = true) by decide)] at H; exact H
            clear H
            have H := H1
            clear H1
            by_cases c53 : ((rd_T35 l1_1 x6_2).f0) = 16
            ·rw [if_pos c53] at H
             have c53b0 : (((rd_T35 l1_1 x6_2).f0) == 16) = true := beq_iff_eq.mpr c53
             have c53b1 : (((rd_T35 l1_1 x6_2).f0) != 16) = false := bne_eq_false_iff_eq.mpr c53
             clear c53
             by_cases c54 : ((rd_T35 l1_1 x6_2).f2) ≤ x6_2
             ·rw [if_pos c54] at H
              have c54b0 : decide (((rd_T35 l1_1 x6_2).f2) ≤ x6_2) = true := decide_eq_true c54
              clear c54
              obtain rfl := Option.some.inj H
              have hnb55 := NB242_238.out
              have hnc55 := NB238_242.out
              have hnb56 := NB242_239.out
              have hnc56 := NB239_242.out
              have hcz57_0 : wc.cell? ⟨gb242, 0, none⟩ = some (.int .i64 ((rd_T35 l1_1 x6_2).f0)) := (blk_cell BK242.out 0).trans rfl
              have hcz57_1 : wc.cell? ⟨gb242, 1, none⟩ = some (.int .i64 ((rd_T35 l1_1 x6_2).f1)) := (blk_cell BK242.out 1).trans rfl
              have hcz57_2 : wc.cell? ⟨gb242, 2, none⟩ = some (.int .i64 ((rd_T35 l1_1 x6_2).f2)) := (blk_cell BK242.out 2).trans rfl
              have hcz57_3 : wc.cell? ⟨gb242, 3, none⟩ = some (.int .i64 ((rd_T35 l1_1 x6_2).f3)) := (blk_cell BK242.out 3).trans rfl
              have hcz57_4 : wc.cell? ⟨gb242, 4, none⟩ = some (.int .i64 ((rd_T35 l1_1 x6_2).f4)) := (blk_cell BK242.out 4).trans rfl
              have hfz57_0 := blk_frozen BK242.out 0
              have hfz57_1 := blk_frozen BK242.out 1
              have hfz57_2 := blk_frozen BK242.out 2
              have hfz57_3 := blk_frozen BK242.out 3
              have hfz57_4 := blk_frozen BK242.out 4
              go_wp2
              go_ret
              exact ⟨by first | rfl | (simp [errW_none, errW_some] <;> rfl) | (simp [*, errW_none, errW_some] <;> rfl), by repeat (first | (with_reducible first | exact HB.out | apply below_alloc | apply pw_below_drewN | apply below_drew1 | refine below_set ?_ GE238.out | refine below_set ?_ GE239.out | refine below_set ?_ GE242.out) | exact HB.out)⟩
             ·rw [if_neg c54] at H
              have c54b0 : decide (((rd_T35 l1_1 x6_2).f2) ≤ x6_2) = false := decide_eq_false c54
              clear c54
              by_cases c58 : ((rd_T35 l1_1 x6_2).f2) ≥ (l1_1.length : Int)
              ·rw [if_pos c58] at H
               have c58b0 : decide ((l1_1.length : Int) ≤ ((rd_T35 l1_1 x6_2).f2)) = true := decide_eq_true c58
               clear c58
               obtain rfl := Option.some.inj H
               have hnb59 := NB242_238.out
               have hnc59 := NB238_242.out
               have hnb60 := NB242_239.out
               have hnc60 := NB239_242.out
               have hcz61_0 : wc.cell? ⟨gb242, 0, none⟩ = some (.int .i64 ((rd_T35 l1_1 x6_2).f0)) := (blk_cell BK242.out 0).trans rfl
               have hcz61_1 : wc.cell? ⟨gb242, 1, none⟩ = some (.int .i64 ((rd_T35 l1_1 x6_2).f1)) := (blk_cell BK242.out 1).trans rfl
               have hcz61_2 : wc.cell? ⟨gb242, 2, none⟩ = some (.int .i64 ((rd_T35 l1_1 x6_2).f2)) := (blk_cell BK242.out 2).trans rfl
               have hcz61_3 : wc.cell? ⟨gb242, 3, none⟩ = some (.int .i64 ((rd_T35 l1_1 x6_2).f3)) := (blk_cell BK242.out 3).trans rfl
               have hcz61_4 : wc.cell? ⟨gb242, 4, none⟩ = some (.int .i64 ((rd_T35 l1_1 x6_2).f4)) := (blk_cell BK242.out 4).trans rfl
               have hfz61_0 := blk_frozen BK242.out 0
               have hfz61_1 := blk_frozen BK242.out 1
               have hfz61_2 := blk_frozen BK242.out 2
               have hfz61_3 := blk_frozen BK242.out 3
               have hfz61_4 := blk_frozen BK242.out 4
               go_wp2
               go_ret
               exact ⟨by first | rfl | (simp [errW_none, errW_some] <;> rfl) | (simp [*, errW_none, errW_some] <;> rfl), by repeat (first | (with_reducible first | exact HB.out | apply below_alloc | apply pw_below_drewN | apply below_drew1 | refine below_set ?_ GE238.out | refine below_set ?_ GE239.out | refine below_set ?_ GE242.out) | exact HB.out)⟩
              ·rw [if_neg c58] at H
               have c58b0 : decide ((l1_1.length : Int) ≤ ((rd_T35 l1_1 x6_2).f2)) = false := decide_eq_false c58
               clear c58
               have H' := Aside0.mk H
               clear H
               have hnb62 := NB242_238.out
               have hnc62 := NB238_242.out
               have hnb63 := NB242_239.out
               have hnc63 := NB239_242.out
               have hcz64_0 : wc.cell? ⟨gb242, 0, none⟩ = some (.int .i64 ((rd_T35 l1_1 x6_2).f0)) := (blk_cell BK242.out 0).trans rfl
               have hcz64_1 : wc.cell? ⟨gb242, 1, none⟩ = some (.int .i64 ((rd_T35 l1_1 x6_2).f1)) := (blk_cell BK242.out 1).trans rfl
               have hcz64_2 : wc.cell? ⟨gb242, 2, none⟩ = some (.int .i64 ((rd_T35 l1_1 x6_2).f2)) := (blk_cell BK242.out 2).trans rfl
               have hcz64_3 : wc.cell? ⟨gb242, 3, none⟩ = some (.int .i64 ((rd_T35 l1_1 x6_2).f3)) := (blk_cell BK242.out 3).trans rfl
               have hcz64_4 : wc.cell? ⟨gb242, 4, none⟩ = some (.int .i64 ((rd_T35 l1_1 x6_2).f4)) := (blk_cell BK242.out 4).trans rfl
               have hfz64_0 := blk_frozen BK242.out 0
               have hfz64_1 := blk_frozen BK242.out 1
               have hfz64_2 := blk_frozen BK242.out 2
               have hfz64_3 := blk_frozen BK242.out 3
               have hfz64_4 := blk_frozen BK242.out 4
               go_wp2
               go_roundg kj17
               case measure => have := HJ2.out; have := HK2.out; have := HJ17.out; omega
               case rel => exact ⟨(wrap64 (x6_2 + 1)), (by first | rfl | (simp; done) | (simp [*]; done)), H', ⟨by have := HJ2.out; have := HK2.out; have := HJ17.out; omega⟩, ⟨by (with_reducible repeat (first | refine blk_drewN ?_ _ | refine blk_drew ?_ | refine blk_alloc ?_ _)); exact BK238.out⟩, ⟨by (with_reducible repeat (first | refine blk_drewN ?_ _ | refine blk_drew ?_ | refine blk_alloc ?_ _)); exact BK239.out⟩, ⟨by repeat (first | (with_reducible first | exact HB.out | apply below_alloc | apply pw_below_drewN | apply below_drew1 | refine below_set ?_ GE238.out | refine below_set ?_ GE239.out | refine below_set ?_ GE242.out) | exact HB.out)⟩⟩
            ·rw [if_neg c53] at H
             have c53b0 : (((rd_T35 l1_1 x6_2).f0) == 16) = false := beq_eq_false_iff_ne.mpr c53
             have c53b1 : (((rd_T35 l1_1 x6_2).f0) != 16) = true := bne_iff_ne.mpr c53
             have H' := Aside0.mk H
             clear H
             have hnb65 := NB242_238.out
             have hnc65 := NB238_242.out
             have hnb66 := NB242_239.out
             have hnc66 := NB239_242.out
             have hcz67_0 : wc.cell? ⟨gb242, 0, none⟩ = some (.int .i64 ((rd_T35 l1_1 x6_2).f0)) := (blk_cell BK242.out 0).trans rfl
             have hcz67_1 : wc.cell? ⟨gb242, 1, none⟩ = some (.int .i64 ((rd_T35 l1_1 x6_2).f1)) := (blk_cell BK242.out 1).trans rfl
             have hcz67_2 : wc.cell? ⟨gb242, 2, none⟩ = some (.int .i64 ((rd_T35 l1_1 x6_2).f2)) := (blk_cell BK242.out 2).trans rfl
             have hcz67_3 : wc.cell? ⟨gb242, 3, none⟩ = some (.int .i64 ((rd_T35 l1_1 x6_2).f3)) := (blk_cell BK242.out 3).trans rfl
             have hcz67_4 : wc.cell? ⟨gb242, 4, none⟩ = some (.int .i64 ((rd_T35 l1_1 x6_2).f4)) := (blk_cell BK242.out 4).trans rfl
             have hfz67_0 := blk_frozen BK242.out 0
             have hfz67_1 := blk_frozen BK242.out 1
             have hfz67_2 := blk_frozen BK242.out 2
             have hfz67_3 := blk_frozen BK242.out 3
             have hfz67_4 := blk_frozen BK242.out 4
             go_wp2
             go_roundg kj17
             case measure => have := HJ2.out; have := HK2.out; have := HJ17.out; omega
             case rel => exact ⟨(wrap64 (x6_2 + 1)), (by first | rfl | (simp; done) | (simp [*]; done)), H', ⟨by have := HJ2.out; have := HK2.out; have := HJ17.out; omega⟩, ⟨by (with_reducible repeat (first | refine blk_drewN ?_ _ | refine blk_drew ?_ | refine blk_alloc ?_ _)); exact BK238.out⟩, ⟨by (with_reducible repeat (first | refine blk_drewN ?_ _ | refine blk_drew ?_ | refine blk_alloc ?_ _)); exact BK239.out⟩, ⟨by repeat (first | (with_reducible first | exact HB.out | apply below_alloc | apply pw_below_drewN | apply below_drew1 | refine below_set ?_ GE238.out | refine below_set ?_ GE239.out | refine below_set ?_ GE242.out) | exact HB.out)⟩⟩
        ·rw [if_neg c17] at H
         exact absurd H (by simp)
       ·rw [if_neg c16] at H
        exact absurd H (by simp)
      ·rw [if_neg c15] at H
       have c15b0 : decide (x6_2 < (l1_1.length : Int)) = false := decide_eq_false c15
       clear c15
       obtain rfl := Option.some.inj H
       go_wp2
       go_ret
       exact ⟨by first | rfl | (simp [errW_none, errW_some] <;> rfl) | (simp [*, errW_none, errW_some] <;> rfl), by repeat (first | (with_reducible first | exact HB.out | apply below_alloc | apply pw_below_drewN | apply below_drew1 | refine below_set ?_ GE238.out | refine below_set ?_ GE239.out) | exact HB.out)⟩
end Go.Proofs.Ytedghbjmhcgilaa.POpt
end
