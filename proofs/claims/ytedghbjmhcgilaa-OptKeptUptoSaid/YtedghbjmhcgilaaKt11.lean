import Derived.OwnWalk
import Derived.Deep.RegionHeld3
import Derived.Deep.CutBlock
import Derived.Test.YtedghbjmhcgilaaKt4
import Derived.Test.YtedghbjmhcgilaaKt6
import Derived.Test.YtedghbjmhcgilaaKt9
import Derived.Test.YtedghbjmhcgilaaKt10
section
namespace Go.Proofs.Ytedghbjmhcgilaa.A
open Go.RowKit Go.Shelf Go.Maps Go.Proofs.YtedghbjmhcgilaaW.PrintWords Go.Proofs.YtedghbjmhcgilaaW.PrintLast Go.Proofs.YtedghbjmhcgilaaW.PrintMore
open Go.Proofs.Ytedghbjmhcgilaa.POpt
attribute [local go_sem] Oper.semAt_some
set_option linter.unusedVariables false
set_option linter.unusedSimpArgs false
theorem flip_step {r : List Bool} {k : Nat} (hk : k < r.length) : ((r.take k).map (!·) ++ r.drop k).set k (!r[k]) = (r.take (k + 1)).map (!·) ++ r.drop (k + 1) := by
  have hlen : ((r.take k).map (!·)).length = k := by simp; omega
  rw [List.set_append_right _ _ (by omega), hlen, Nat.sub_self, List.drop_eq_getElem_cons hk, List.take_succ_eq_append_getElem hk, List.map_append, List.append_assoc]
  rfl
theorem flip_get {r : List Bool} {k : Nat} (hk : k < r.length) : rdOf false ((r.take k).map (!·) ++ r.drop k) (k : Int) = r[k] := by
  have hlen : ((r.take k).map (!·)).length = k := by simp; omega
  simp only [rdOf, Int.toNat_natCast]
  rw [List.getD_eq_getElem?_getD, List.getElem?_append_right (by omega), hlen, Nat.sub_self, List.getElem?_drop]
  simp [hk]
set_option maxRecDepth 100000 in
set_option maxHeartbeats 2000000 in
theorem trim_calls (A0 : Option Addr) (c0 : Nat) (l0 : List S35) (A1 : Option Addr) (c1 : Nat) (l1 : List S37) (kr : Nat) (r : List Bool) (w : World) (bV : Nat) (okR : Nat → Prop)
    (hr0 : Kd.C k35 w A0 l0.length l0) (hc0 : l0.length ≤ c0) (hr1 : Kd.R k37 37 w bV okR (.slice A1 l1.length c1) l1)
    (h : opt_reached.f kr l0 l1 = some r) (hlen : r.length = l0.length) (hs0 : l0.length < 3518437208883) (hs1 : l1.length ≤ 140737488355328) (hbV : bV ≤ w.heap.size) (hw0 : ∀ x ∈ l0, wfS x) (hw1 : ∀ x ∈ l1, wfI x.f1) :
    Calls Try.prog 45 #[.slice A0 l0.length c0, .slice A1 l1.length c1] w fun e w' => ∃ v : Value, e = .returned v ∧ Kd.R k35 35 w' w.heap.size (fun _ => True) v ((keptAt l0 (r.map (!·)) l0.length).map (placed (toNow (r.map (!·)) l0.length))) ∧ Kd.R k37 37 w' bV okR (.slice A1 l1.length c1) (l1.map (placedR (toNow (r.map (!·)) l0.length))) ∧ Below bV w w' ∧ (∀ k, k < w.heap.size → some k ≠ (Value.slice A1 l1.length c1).ownBlock → w'.heap[k]? = w.heap[k]?) := by
  have HR0 := Lib.hid hr0
  have HR1 := Lib.hid hr1
  have HW0 := Lib.hid hw0
  have HW1 := Lib.hid hw1
  have HF := Lib.hid h
  clear hr0 hr1 hw0 hw1 h
  go_enter Try.func45, Try.ntmps45
  go_wp2_with fail
  obtain ⟨Ax, cx, he, hcl, hC1⟩ := Kd.R_reads HR1.out
  injection he with e1 e2 e3
  subst e1 e3
  refine (opt_reached.calls kr A0 c0 l0 A1 c1 l1 r w HR0.out hc0 hC1 hcl HF.out).mono ?_
  rintro e w1 ⟨v1, rfl, hO, hB⟩
  obtain ⟨Am, cm, rfl⟩ := Kd.R_slice hO
  have HO := Lib.hid hO
  have HB := Lib.hid hB
  clear hO hB hC1
  dsimp only
  go_wp2_with fail
  go_loopw [12] (fun s12 wl => ∃ k : Nat, k ≤ r.length ∧ s12 = .int .i64 k ∧ Hid (Below w.heap.size w wl) ∧ Hid (Kd.R Kd.bool 4 wl w.heap.size (fun _ => True) (.slice Am r.length cm) ((r.take k).map (!·) ++ r.drop k))) (fun s12 _ => r.length - (intOf s12).toNat)
  case atStart => exact ⟨0, Nat.zero_le _, rfl, HB, by simpa using HO⟩
  case round =>
    obtain ⟨k, hk, rfl, HB, HO⟩ := hrel
    by_cases hlt : k < r.length
    · have hltz : (k : Int) < (r.length : Int) := by omega
      obtain ⟨g, cells, hA, hbg, hgl, hok, hh, _, _⟩ := R_shape HO.out (by omega) (by show 0 < 1; omega)
      subst hA
      obtain ⟨hn, hcm, hC⟩ := Kd.R_reads' HO.out
      obtain ⟨ad, eA, qb⟩ := Kd.at_bool hC (k : Int) (by omega) (by omega)
      injection eA with eA
      subst eA
      rw [flip_get hlt] at qb
      simp only [Int.toNat_natCast, Addr.add_lit, Nat.zero_add] at qb
      have hfr := blk_frozen hh k
      have hput := Kd.R_putg HO.out (k : Int) (!r[k])
      simp only [Int.toNat_natCast] at hput
      rw [flip_step hlt] at hput
      have HPUT := Lib.hid hput
      have HBG := Lib.hid hbg
      clear hh hC hput hok hn hbg
      go_wp2_with fail
      refine ⟨⟨k + 1, by omega, by go_num, ?_, ?_⟩, by simp [intOf]; omega⟩
      · exact HB.out.setCell (p := ⟨g, k, none⟩) HBG.out _
      · exact HPUT.out.1
    · have hkn : k = r.length := by omega
      subst hkn
      have hO := HO.out
      rw [List.take_length, List.drop_length, List.append_nil] at hO
      obtain ⟨hn, hcm, hC⟩ := Kd.R_reads' hO
      rw [List.length_map] at hC
      have HO2 := Lib.hid hO
      have HC := Lib.hid hC
      clear hO hC
      have hlm : (r.map (!·)).length = r.length := List.length_map _
      go_wp2_with fail
      have hcall := without_calls A0 c0 l0 A1 c1 l1 Am cm (r.map (!·)) wr bV okR (Kd.C_below HR0.out HB.out) hc0 (Kd.R_mono (Kd.R_move (Kd.R_bound HR1.out) (fun k hk => HB.out.block k hk.2.2.1)) (fun k hk => hk.1)) (by rw [hlm]; exact HC.out) (by rw [hlm]; exact hcm) (by rw [hlm]; exact hlen) hs0 hs1 (by have := HB.out.size; omega) HW0.out HW1.out
      rw [hlm, hlen] at hcall
      rw [hlen]
      refine hcall.mono ?_
      rintro e w5 ⟨v5, rfl, h1, h2, h3, h4⟩
      have H1 := Lib.hid h1
      have H2 := Lib.hid h2
      have H3 := Lib.hid h3
      have H4 := Lib.hid h4
      clear hcall h1 h2 h3 h4
      dsimp only
      go_wp2_with fail
      go_ret
      refine ⟨_, rfl, ?_, H2.out, (HB.out.mono hbV).trans H3.out, fun k a b => (H4.out k (Nat.lt_of_lt_of_le a HB.out.size) b).trans (HB.out.block k a)⟩
      exact Kd.R_lower H1.out HB.out.size
end Go.Proofs.Ytedghbjmhcgilaa.A
end
section
namespace Go.Proofs.Ytedghbjmhcgilaa.POpt
open Go.RowKit Go.Proofs.YtedghbjmhcgilaaW.PrintWords Go.Proofs.YtedghbjmhcgilaaW.PrintLast Go.Proofs.YtedghbjmhcgilaaW.PrintMore
attribute [local go_sem] max2_int min2_int max_two min_two max_three min_three max_four min_four
set_option linter.unusedVariables false
set_option linter.unusedSimpArgs false
mutual
def opt_fused.j0 : Nat → Bool → Int → Int → Int → Int → Int → Int → Int → Int → Int → Int → Option (Int × Int × Int × Int × Int × Bool)
 | 0, _, _, _, _, _, _, _, _, _, _, _ => none
 | k + 1, x6, x138000, x138001, x138002, x138003, x138004, x139000, x139001, x139002, x139003, x139004 => if x6 = true then (some (14, x138001, x139001, 0, 0, true)) else (if x138000 = 5 then (opt_fused.j1 k (x139000 == 8) x138000 x138001 x138002 x138003 x138004 x139000 x139001 x139002 x139003 x139004) else (opt_fused.j1 k false x138000 x138001 x138002 x138003 x138004 x139000 x139001 x139002 x139003 x139004))
def opt_fused.j1 : Nat → Bool → Int → Int → Int → Int → Int → Int → Int → Int → Int → Int → Option (Int × Int × Int × Int × Int × Bool)
 | 0, _, _, _, _, _, _, _, _, _, _, _ => none
 | k + 1, x20, x138000, x138001, x138002, x138003, x138004, x139000, x139001, x139002, x139003, x139004 => if x20 = true then (some (15, x138001, x139001, 0, 0, true)) else (if x138000 = 17 then (if x139000 = 18 then (some (25, x138001, x139001, 0, 0, true)) else (some (0, 0, 0, 0, 0, false))) else (some (0, 0, 0, 0, 0, false)))
end
def opt_fused.f (k : Nat) (a0_0 : Int) (a0_1 : Int) (a0_2 : Int) (a0_3 : Int) (a0_4 : Int) (a1_0 : Int) (a1_1 : Int) (a1_2 : Int) (a1_3 : Int) (a1_4 : Int) : Option (Int × Int × Int × Int × Int × Bool) := if a0_0 = 5 then (opt_fused.j0 k (a1_0 == 7) a0_0 a0_1 a0_2 a0_3 a0_4 a1_0 a1_1 a1_2 a1_3 a1_4) else (opt_fused.j0 k false a0_0 a0_1 a0_2 a0_3 a0_4 a1_0 a1_1 a1_2 a1_3 a1_4)
set_option maxHeartbeats 8000000 in
set_option maxRecDepth 100000 in
theorem opt_fused.calls (k : Nat) (a0_0 : Int) (a0_1 : Int) (a0_2 : Int) (a0_3 : Int) (a0_4 : Int) (a1_0 : Int) (a1_1 : Int) (a1_2 : Int) (a1_3 : Int) (a1_4 : Int) (r1 : Int) (r2 : Int) (r3 : Int) (r4 : Int) (r5 : Int) (r6 : Bool) (w : World) (h : opt_fused.f k a0_0 a0_1 a0_2 a0_3 a0_4 a1_0 a1_1 a1_2 a1_3 a1_4 = some (r1, r2, r3, r4, r5, r6)) :
  Calls Try.prog 57 #[.agg #[.int .i64 a0_0, .int .i64 a0_1, .int .i64 a0_2, .int .i64 a0_3, .int .i64 a0_4], .agg #[.int .i64 a1_0, .int .i64 a1_1, .int .i64 a1_2, .int .i64 a1_3, .int .i64 a1_4]] w fun e w' => e = .returned (.tuple #[.agg #[.int .i64 r1, .int .i64 r2, .int .i64 r3, .int .i64 r4, .int .i64 r5], .bool r6]) ∧ Below w.heap.size w w' := by
 have hu35 := Try.underlying35
 have HB := Aside0.mk (Below.refl w.heap.size w)
 have H : (if a0_0 = 5 then (opt_fused.j0 k (a1_0 == 7) a0_0 a0_1 a0_2 a0_3 a0_4 a1_0 a1_1 a1_2 a1_3 a1_4) else (opt_fused.j0 k false a0_0 a0_1 a0_2 a0_3 a0_4 a1_0 a1_1 a1_2 a1_3 a1_4)) = some (r1, r2, r3, r4, r5, r6) := h
 clear h
 have HC3 := Aside0.mk H
 clear H
 go_enter Try.func57, Try.ntmps57
 go_upto_region 1 with (first | ((with_reducible refine gate_dst (N := 2) rfl ?_); refine box_event ?hg (N := 2) ?hd (cs := #[.int .i64 a0_0, .int .i64 a0_1, .int .i64 a0_2, .int .i64 a0_3, .int .i64 a0_4]) (t := 35) ?hr ?_; (case hd => rfl); (case hg => rfl); (case hr => first | (go_simp; done) | (go_simp; rfl)); intro gb137 hg w4 hbox hb; have n0_ := Aside0.mk (below_step (by repeat (first | (with_reducible first | exact HB.out | apply below_alloc | apply pw_below_drewN | apply below_drew1) | exact HB.out)) hb); have n1_ := Aside0.mk (hbox); have n2_ := Aside0.mk ((by rw [hg]; exact (below_size (by repeat (first | (with_reducible first | exact HB.out | apply below_alloc | apply pw_below_drewN | apply below_drew1) | exact HB.out))) : w.heap.size ≤ gb137)); have n3_ := Aside0.mk ((by rw [hg]; exact (below_size (by repeat (first | (with_reducible first | exact HB.out | apply below_alloc | apply pw_below_drewN | apply below_drew1) | exact HB.out))) : w.heap.size ≤ gb137)); clear HB; have HB := n0_; have BK137 := n1_; have GW137 := n2_; have GE137 := n3_; clear n0_ n1_ n2_ n3_; clear hb hbox hg) | ((with_reducible refine gate_dst (N := 3) rfl ?_); refine box_event ?hg (N := 3) ?hd (cs := #[.int .i64 a1_0, .int .i64 a1_1, .int .i64 a1_2, .int .i64 a1_3, .int .i64 a1_4]) (t := 35) ?hr ?_; (case hd => rfl); (case hg => rfl); (case hr => first | (go_simp; done) | (go_simp; rfl)); intro gb138 hg w5 hbox hb; have n0_ := Aside0.mk (blk_below (g := gb137) (o := .cells #[.int .i64 a0_0, .int .i64 a0_1, .int .i64 a0_2, .int .i64 a0_3, .int .i64 a0_4] 35 (0, 0)) (by (with_reducible repeat (first | refine blk_drewN ?_ _ | refine blk_drew ?_ | refine blk_alloc ?_ _)); exact BK137.out) hb); have n1_ := Aside0.mk (below_step (by repeat (first | (with_reducible first | exact HB.out | apply below_alloc | apply pw_below_drewN | apply below_drew1 | refine below_set ?_ GE137.out) | exact HB.out)) hb); have n2_ := Aside0.mk (hbox); have n3_ := Aside0.mk ((by rw [hg]; exact (below_size (by repeat (first | (with_reducible first | exact HB.out | apply below_alloc | apply pw_below_drewN | apply below_drew1 | refine below_set ?_ GE137.out) | exact HB.out))) : w.heap.size ≤ gb138)); have n4_ := Aside0.mk ((by rw [hg]; exact (below_size (by repeat (first | (with_reducible first | exact HB.out | apply below_alloc | apply pw_below_drewN | apply below_drew1 | refine below_set ?_ GE137.out) | exact HB.out))) : w.heap.size ≤ gb138)); have n5_ := Aside0.mk ((by rw [hg]; exact Nat.ne_of_lt (blk_lt (g := gb137) (o := .cells #[.int .i64 a0_0, .int .i64 a0_1, .int .i64 a0_2, .int .i64 a0_3, .int .i64 a0_4] 35 (0, 0)) (by (with_reducible repeat (first | refine blk_drewN ?_ _ | refine blk_drew ?_ | refine blk_alloc ?_ _)); exact BK137.out)) : gb137 ≠ gb138)); have n6_ := Aside0.mk ((by rw [hg]; exact Nat.ne_of_gt (blk_lt (g := gb137) (o := .cells #[.int .i64 a0_0, .int .i64 a0_1, .int .i64 a0_2, .int .i64 a0_3, .int .i64 a0_4] 35 (0, 0)) (by (with_reducible repeat (first | refine blk_drewN ?_ _ | refine blk_drew ?_ | refine blk_alloc ?_ _)); exact BK137.out)) : gb138 ≠ gb137)); clear BK137; clear HB; have BK137 := n0_; have HB := n1_; have BK138 := n2_; have GW138 := n3_; have GE138 := n4_; have NB137_138 := n5_; have NB138_137 := n6_; clear n0_ n1_ n2_ n3_ n4_ n5_ n6_; clear hb hbox hg) | ((with_reducible refine gate_dst (N := 4) rfl ?_); refine box_event ?hg (N := 4) ?hd (cs := #[.int .i64 0, .int .i64 0, .int .i64 0, .int .i64 0, .int .i64 0]) (t := 35) ?hr ?_; (case hd => rfl); (case hg => rfl); (case hr => first | (go_simp; done) | (go_simp; rfl)); intro gb139 hg w6 hbox hb; have n0_ := Aside0.mk (blk_below (g := gb137) (o := .cells #[.int .i64 a0_0, .int .i64 a0_1, .int .i64 a0_2, .int .i64 a0_3, .int .i64 a0_4] 35 (0, 0)) (by (with_reducible repeat (first | refine blk_drewN ?_ _ | refine blk_drew ?_ | refine blk_alloc ?_ _)); exact BK137.out) hb); have n1_ := Aside0.mk (blk_below (g := gb138) (o := .cells #[.int .i64 a1_0, .int .i64 a1_1, .int .i64 a1_2, .int .i64 a1_3, .int .i64 a1_4] 35 (0, 0)) (by (with_reducible repeat (first | refine blk_drewN ?_ _ | refine blk_drew ?_ | refine blk_alloc ?_ _)); exact BK138.out) hb); have n2_ := Aside0.mk (below_step (by repeat (first | (with_reducible first | exact HB.out | apply below_alloc | apply pw_below_drewN | apply below_drew1 | refine below_set ?_ GE137.out | refine below_set ?_ GE138.out) | exact HB.out)) hb); have n3_ := Aside0.mk (hbox); have n4_ := Aside0.mk ((by rw [hg]; exact (below_size (by repeat (first | (with_reducible first | exact HB.out | apply below_alloc | apply pw_below_drewN | apply below_drew1 | refine below_set ?_ GE137.out | refine below_set ?_ GE138.out) | exact HB.out))) : w.heap.size ≤ gb139)); have n5_ := Aside0.mk ((by rw [hg]; exact (below_size (by repeat (first | (with_reducible first | exact HB.out | apply below_alloc | apply pw_below_drewN | apply below_drew1 | refine below_set ?_ GE137.out | refine below_set ?_ GE138.out) | exact HB.out))) : w.heap.size ≤ gb139)); have n6_ := Aside0.mk ((by rw [hg]; exact Nat.ne_of_lt (blk_lt (g := gb137) (o := .cells #[.int .i64 a0_0, .int .i64 a0_1, .int .i64 a0_2, .int .i64 a0_3, .int .i64 a0_4] 35 (0, 0)) (by (with_reducible repeat (first | refine blk_drewN ?_ _ | refine blk_drew ?_ | refine blk_alloc ?_ _)); exact BK137.out)) : gb137 ≠ gb139)); have n7_ := Aside0.mk ((by rw [hg]; exact Nat.ne_of_gt (blk_lt (g := gb137) (o := .cells #[.int .i64 a0_0, .int .i64 a0_1, .int .i64 a0_2, .int .i64 a0_3, .int .i64 a0_4] 35 (0, 0)) (by (with_reducible repeat (first | refine blk_drewN ?_ _ | refine blk_drew ?_ | refine blk_alloc ?_ _)); exact BK137.out)) : gb139 ≠ gb137)); have n8_ := Aside0.mk ((by rw [hg]; exact Nat.ne_of_lt (blk_lt (g := gb138) (o := .cells #[.int .i64 a1_0, .int .i64 a1_1, .int .i64 a1_2, .int .i64 a1_3, .int .i64 a1_4] 35 (0, 0)) (by (with_reducible repeat (first | refine blk_drewN ?_ _ | refine blk_drew ?_ | refine blk_alloc ?_ _)); exact BK138.out)) : gb138 ≠ gb139)); have n9_ := Aside0.mk ((by rw [hg]; exact Nat.ne_of_gt (blk_lt (g := gb138) (o := .cells #[.int .i64 a1_0, .int .i64 a1_1, .int .i64 a1_2, .int .i64 a1_3, .int .i64 a1_4] 35 (0, 0)) (by (with_reducible repeat (first | refine blk_drewN ?_ _ | refine blk_drew ?_ | refine blk_alloc ?_ _)); exact BK138.out)) : gb139 ≠ gb138)); clear BK137; clear BK138; clear HB; have BK137 := n0_; have BK138 := n1_; have HB := n2_; have BK139 := n3_; have GW139 := n4_; have GE139 := n5_; have NB137_139 := n6_; have NB139_137 := n7_; have NB138_139 := n8_; have NB139_138 := n9_; clear n0_ n1_ n2_ n3_ n4_ n5_ n6_ n7_ n8_ n9_; clear hb hbox hg))
 (try simp only [Act.put, List.setIfInBounds_toArray, List.set_cons_zero, List.set_cons_succ])
 go_cut [6] (fun v6 wc => ∃ (kq : Nat) (x6_2 : Bool), v6 = .bool x6_2 ∧ Aside0 (opt_fused.j0 kq x6_2 a0_0 a0_1 a0_2 a0_3 a0_4 a1_0 a1_1 a1_2 a1_3 a1_4 = some (r1, r2, r3, r4, r5, r6)) ∧ Aside0 (kq ≤ k) ∧ Aside0 (wc.heap[gb137]? = some (.cells #[.int .i64 a0_0, .int .i64 a0_1, .int .i64 a0_2, .int .i64 a0_3, .int .i64 a0_4] 35 (0, 0))) ∧ Aside0 (wc.heap[gb138]? = some (.cells #[.int .i64 a1_0, .int .i64 a1_1, .int .i64 a1_2, .int .i64 a1_3, .int .i64 a1_4] 35 (0, 0))) ∧ Aside0 (wc.heap[gb139]? = some (.cells #[.int .i64 0, .int .i64 0, .int .i64 0, .int .i64 0, .int .i64 0] 35 (0, 0))) ∧ Aside0 (Below w.heap.size w wc))
 case first =>
  have H := HC3.out
  clear HC3
  by_cases c7 : a0_0 = 5
  ·rw [if_pos c7] at H
   have c7b0 : (a0_0 == 5) = true := beq_iff_eq.mpr c7
   have c7b1 : (a0_0 != 5) = false := bne_eq_false_iff_eq.mpr c7
   clear c7
   (first | rw [c7b0] | (simp only [i64_w, i32_w]; rw [c7b0]) | skip)
   have H' := Aside0.mk H
   clear H
   have hnb8 := NB137_138.out
   have hnc8 := NB138_137.out
   have hnb9 := NB137_139.out
   have hnc9 := NB139_137.out
   have hcz10_0 : w6.cell? ⟨gb137, 0, none⟩ = some (.int .i64 a0_0) := (blk_cell BK137.out 0).trans rfl
   have hcz10_1 : w6.cell? ⟨gb137, 1, none⟩ = some (.int .i64 a0_1) := (blk_cell BK137.out 1).trans rfl
   have hcz10_2 : w6.cell? ⟨gb137, 2, none⟩ = some (.int .i64 a0_2) := (blk_cell BK137.out 2).trans rfl
   have hcz10_3 : w6.cell? ⟨gb137, 3, none⟩ = some (.int .i64 a0_3) := (blk_cell BK137.out 3).trans rfl
   have hcz10_4 : w6.cell? ⟨gb137, 4, none⟩ = some (.int .i64 a0_4) := (blk_cell BK137.out 4).trans rfl
   have hfz10_0 := blk_frozen BK137.out 0
   have hfz10_1 := blk_frozen BK137.out 1
   have hfz10_2 := blk_frozen BK137.out 2
   have hfz10_3 := blk_frozen BK137.out 3
   have hfz10_4 := blk_frozen BK137.out 4
   have hnb11 := NB138_139.out
   have hnc11 := NB139_138.out
   have hcz12_0 : w6.cell? ⟨gb138, 0, none⟩ = some (.int .i64 a1_0) := (blk_cell BK138.out 0).trans rfl
   have hcz12_1 : w6.cell? ⟨gb138, 1, none⟩ = some (.int .i64 a1_1) := (blk_cell BK138.out 1).trans rfl
   have hcz12_2 : w6.cell? ⟨gb138, 2, none⟩ = some (.int .i64 a1_2) := (blk_cell BK138.out 2).trans rfl
   have hcz12_3 : w6.cell? ⟨gb138, 3, none⟩ = some (.int .i64 a1_3) := (blk_cell BK138.out 3).trans rfl
   have hcz12_4 : w6.cell? ⟨gb138, 4, none⟩ = some (.int .i64 a1_4) := (blk_cell BK138.out 4).trans rfl
   have hfz12_0 := blk_frozen BK138.out 0
   have hfz12_1 := blk_frozen BK138.out 1
   have hfz12_2 := blk_frozen BK138.out 2
   have hfz12_3 := blk_frozen BK138.out 3
   have hfz12_4 := blk_frozen BK138.out 4
   go_wp2
   go_meet
   case rel => exact ⟨_, ((a1_0 == 7)), (by first | rfl | (simp; done) | (simp [*]; done)), H', ⟨by first | omega | exact Nat.le_refl _⟩, ⟨by (with_reducible repeat (first | refine blk_drewN ?_ _ | refine blk_drew ?_ | refine blk_alloc ?_ _)); exact BK137.out⟩, ⟨by (with_reducible repeat (first | refine blk_drewN ?_ _ | refine blk_drew ?_ | refine blk_alloc ?_ _)); exact BK138.out⟩, ⟨by (with_reducible repeat (first | refine blk_drewN ?_ _ | refine blk_drew ?_ | refine blk_alloc ?_ _)); exact BK139.out⟩, ⟨by repeat (first | (with_reducible first | exact HB.out | apply below_alloc | apply pw_below_drewN | apply below_drew1 | refine below_set ?_ GE137.out | refine below_set ?_ GE138.out | refine below_set ?_ GE139.out) | exact HB.out)⟩⟩
  ·rw [if_neg c7] at H
   have c7b0 : (a0_0 == 5) = false := beq_eq_false_iff_ne.mpr c7
   have c7b1 : (a0_0 != 5) = true := bne_iff_ne.mpr c7
   (first | rw [c7b0] | (simp only [i64_w, i32_w]; rw [c7b0]) | skip)
   have H' := Aside0.mk H
   clear H
   have hnb13 := NB137_138.out
   have hnc13 := NB138_137.out
   have hnb14 := NB137_139.out
   have hnc14 := NB139_137.out
   have hcz15_0 : w6.cell? ⟨gb137, 0, none⟩ = some (.int .i64 a0_0) := (blk_cell BK137.out 0).trans rfl
   have hcz15_1 : w6.cell? ⟨gb137, 1, none⟩ = some (.int .i64 a0_1) := (blk_cell BK137.out 1).trans rfl
   have hcz15_2 : w6.cell? ⟨gb137, 2, none⟩ = some (.int .i64 a0_2) := (blk_cell BK137.out 2).trans rfl
   have hcz15_3 : w6.cell? ⟨gb137, 3, none⟩ = some (.int .i64 a0_3) := (blk_cell BK137.out 3).trans rfl
   have hcz15_4 : w6.cell? ⟨gb137, 4, none⟩ = some (.int .i64 a0_4) := (blk_cell BK137.out 4).trans rfl
   have hfz15_0 := blk_frozen BK137.out 0
   have hfz15_1 := blk_frozen BK137.out 1
   have hfz15_2 := blk_frozen BK137.out 2
   have hfz15_3 := blk_frozen BK137.out 3
   have hfz15_4 := blk_frozen BK137.out 4
   go_wp2
   go_meet
   case rel => exact ⟨_, (false), (by first | rfl | (simp; done) | (simp [*]; done)), H', ⟨by first | omega | exact Nat.le_refl _⟩, ⟨by (with_reducible repeat (first | refine blk_drewN ?_ _ | refine blk_drew ?_ | refine blk_alloc ?_ _)); exact BK137.out⟩, ⟨by (with_reducible repeat (first | refine blk_drewN ?_ _ | refine blk_drew ?_ | refine blk_alloc ?_ _)); exact BK138.out⟩, ⟨by (with_reducible repeat (first | refine blk_drewN ?_ _ | refine blk_drew ?_ | refine blk_alloc ?_ _)); exact BK139.out⟩, ⟨by repeat (first | (with_reducible first | exact HB.out | apply below_alloc | apply pw_below_drewN | apply below_drew1 | refine below_set ?_ GE137.out | refine below_set ?_ GE138.out | refine below_set ?_ GE139.out) | exact HB.out)⟩⟩
 case rest =>
  clear HC3
  try clear c1
  try clear p2
  try clear c5
  try clear c7
  try clear c7b0
  try clear c7b1
  try clear c8
  try clear c9
  try clear c11
  try clear c13
  try clear c14
  try clear hcz10_0
  try clear hcz10_1
  try clear hcz10_2
  try clear hcz10_3
  try clear hcz10_4
  try clear hcz12_0
  try clear hcz12_1
  try clear hcz12_2
  try clear hcz12_3
  try clear hcz12_4
  try clear hcz15_0
  try clear hcz15_1
  try clear hcz15_2
  try clear hcz15_3
  try clear hcz15_4
  try clear hfz10_0
  try clear hfz10_1
  try clear hfz10_2
  try clear hfz10_3
  try clear hfz10_4
  try clear hfz12_0
  try clear hfz12_1
  try clear hfz12_2
  try clear hfz12_3
  try clear hfz12_4
  try clear hfz15_0
  try clear hfz15_1
  try clear hfz15_2
  try clear hfz15_3
  try clear hfz15_4
  obtain ⟨kq, x6_2, rfl, HA, HJ2, BK137, BK138, BK139, HB⟩ := hcut
  cases kq with
  | zero => exact absurd HA.out (by simp [opt_fused.j0])
  | succ kj2 =>
   have H := HA.out
   clear HA
   simp only [opt_fused.j0] at H
   by_cases c16 : x6_2 = true
   ·subst c16
    have H1 : (some (14, a0_1, a1_1, 0, 0, true)) = some (r1, r2, r3, r4, r5, r6) := by rw [if_pos rfl] at H; exact H
    clear H
    have H := H1
    clear H1
    simp only [Option.some.injEq, Prod.mk.injEq] at H
    obtain ⟨rfl, rfl, rfl, rfl, rfl, rfl⟩ := H
    have hnb17 := NB137_138.out
    have hnc17 := NB138_137.out
    have hnb18 := NB137_139.out
    have hnc18 := NB139_137.out
    have hcz19_0 : wc.cell? ⟨gb137, 0, none⟩ = some (.int .i64 a0_0) := (blk_cell BK137.out 0).trans rfl
    have hcz19_1 : wc.cell? ⟨gb137, 1, none⟩ = some (.int .i64 a0_1) := (blk_cell BK137.out 1).trans rfl
    have hcz19_2 : wc.cell? ⟨gb137, 2, none⟩ = some (.int .i64 a0_2) := (blk_cell BK137.out 2).trans rfl
    have hcz19_3 : wc.cell? ⟨gb137, 3, none⟩ = some (.int .i64 a0_3) := (blk_cell BK137.out 3).trans rfl
    have hcz19_4 : wc.cell? ⟨gb137, 4, none⟩ = some (.int .i64 a0_4) := (blk_cell BK137.out 4).trans rfl
    have hfz19_0 := blk_frozen BK137.out 0
    have hfz19_1 := blk_frozen BK137.out 1
    have hfz19_2 := blk_frozen BK137.out 2
    have hfz19_3 := blk_frozen BK137.out 3
    have hfz19_4 := blk_frozen BK137.out 4
    have hnb20 := NB138_139.out
    have hnc20 := NB139_138.out
    have hcz21_0 : wc.cell? ⟨gb138, 0, none⟩ = some (.int .i64 a1_0) := (blk_cell BK138.out 0).trans rfl
    have hcz21_1 : wc.cell? ⟨gb138, 1, none⟩ = some (.int .i64 a1_1) := (blk_cell BK138.out 1).trans rfl
    have hcz21_2 : wc.cell? ⟨gb138, 2, none⟩ = some (.int .i64 a1_2) := (blk_cell BK138.out 2).trans rfl
    have hcz21_3 : wc.cell? ⟨gb138, 3, none⟩ = some (.int .i64 a1_3) := (blk_cell BK138.out 3).trans rfl
    have hcz21_4 : wc.cell? ⟨gb138, 4, none⟩ = some (.int .i64 a1_4) := (blk_cell BK138.out 4).trans rfl
    have hfz21_0 := blk_frozen BK138.out 0
    have hfz21_1 := blk_frozen BK138.out 1
    have hfz21_2 := blk_frozen BK138.out 2
    have hfz21_3 := blk_frozen BK138.out 3
    have hfz21_4 := blk_frozen BK138.out 4
    have hcz22_0 : wc.cell? ⟨gb139, 0, none⟩ = some (.int .i64 0) := (blk_cell BK139.out 0).trans rfl
    have hcz22_1 : wc.cell? ⟨gb139, 1, none⟩ = some (.int .i64 0) := (blk_cell BK139.out 1).trans rfl
    have hcz22_2 : wc.cell? ⟨gb139, 2, none⟩ = some (.int .i64 0) := (blk_cell BK139.out 2).trans rfl
    have hcz22_3 : wc.cell? ⟨gb139, 3, none⟩ = some (.int .i64 0) := (blk_cell BK139.out 3).trans rfl
    have hcz22_4 : wc.cell? ⟨gb139, 4, none⟩ = some (.int .i64 0) := (blk_cell BK139.out 4).trans rfl
    have hfz22_0 := blk_frozen BK139.out 0
    have hfz22_1 := blk_frozen BK139.out 1
    have hfz22_2 := blk_frozen BK139.out 2
    have hfz22_3 := blk_frozen BK139.out 3
    have hfz22_4 := blk_frozen BK139.out 4
    go_wp2
    refine bodyPost_ret (results_ct rfl _ _ gb139 35 #[.int .i64 14, .int .i64 a0_1, .int .i64 a1_1, .int .i64 0, .int .i64 0] (0, 0) _ rfl (by (with_reducible repeat (first | refine blk_drewN ?_ _ | refine blk_drew ?_ | refine blk_alloc ?_ _)); refine blk_put (cs := #[.int .i64 14, .int .i64 a0_1, .int .i64 a1_1, .int .i64 0, .int .i64 0]) ?_ 4 _ rfl; (with_reducible repeat (first | refine blk_drewN ?_ _ | refine blk_drew ?_ | refine blk_alloc ?_ _)); refine blk_put (cs := #[.int .i64 14, .int .i64 a0_1, .int .i64 a1_1, .int .i64 0, .int .i64 0]) ?_ 3 _ rfl; (with_reducible repeat (first | refine blk_drewN ?_ _ | refine blk_drew ?_ | refine blk_alloc ?_ _)); refine blk_put (cs := #[.int .i64 14, .int .i64 a0_1, .int .i64 0, .int .i64 0, .int .i64 0]) ?_ 2 _ rfl; (with_reducible repeat (first | refine blk_drewN ?_ _ | refine blk_drew ?_ | refine blk_alloc ?_ _)); refine blk_put (cs := #[.int .i64 14, .int .i64 0, .int .i64 0, .int .i64 0, .int .i64 0]) ?_ 1 _ rfl; (with_reducible repeat (first | refine blk_drewN ?_ _ | refine blk_drew ?_ | refine blk_alloc ?_ _)); refine blk_put (cs := #[.int .i64 0, .int .i64 0, .int .i64 0, .int .i64 0, .int .i64 0]) ?_ 0 _ rfl; (with_reducible repeat (first | refine blk_drewN ?_ _ | refine blk_drew ?_ | refine blk_alloc ?_ _)); exact BK139.out) Try.underlying35 rfl (by kernel_rfl)) rfl ?_
    exact ⟨by first | rfl | (simp [errW_none, errW_some] <;> rfl) | (simp [*, errW_none, errW_some] <;> rfl), by repeat (first | (with_reducible first | exact HB.out | apply below_alloc | apply pw_below_drewN | apply below_drew1 | refine below_set ?_ GE137.out | refine below_set ?_ GE138.out | refine below_set ?_ GE139.out) | exact HB.out)⟩
   ·replace c16 := Bool.eq_false_iff.mpr c16
    subst c16
    have H1 : (if a0_0 = 5 then (opt_fused.j1 kj2 (a1_0 == 8) a0_0 a0_1 a0_2 a0_3 a0_4 a1_0 a1_1 a1_2 a1_3 a1_4) else (opt_fused.j1 kj2 false a0_0 a0_1 a0_2 a0_3 a0_4 a1_0 a1_1 a1_2 a1_3 a1_4)) = some (r1, r2, r3, r4, r5, r6) := by rw [if_neg (show ¬ (false = true) by decide)] at H; exact H
    clear H
    have H := H1
    clear H1
    have HC23 := Aside0.mk H
    clear H
    go_upto_region 3 with (fail)
    go_cut [20] (fun v20 wc => ∃ (kq : Nat) (x20_22 : Bool), v20 = .bool x20_22 ∧ Aside0 (opt_fused.j1 kq x20_22 a0_0 a0_1 a0_2 a0_3 a0_4 a1_0 a1_1 a1_2 a1_3 a1_4 = some (r1, r2, r3, r4, r5, r6)) ∧ Aside0 (kq ≤ kj2) ∧ Aside0 (wc.heap[gb137]? = some (.cells #[.int .i64 a0_0, .int .i64 a0_1, .int .i64 a0_2, .int .i64 a0_3, .int .i64 a0_4] 35 (0, 0))) ∧ Aside0 (wc.heap[gb138]? = some (.cells #[.int .i64 a1_0, .int .i64 a1_1, .int .i64 a1_2, .int .i64 a1_3, .int .i64 a1_4] 35 (0, 0))) ∧ Aside0 (wc.heap[gb139]? = some (.cells #[.int .i64 0, .int .i64 0, .int .i64 0, .int .i64 0, .int .i64 0] 35 (0, 0))) ∧ Aside0 (Below w.heap.size w wc))
    case first =>
     have H := HC23.out
     clear HC23
     by_cases c24 : a0_0 = 5
     ·rw [if_pos c24] at H
      have c24b0 : (a0_0 == 5) = true := beq_iff_eq.mpr c24
      have c24b1 : (a0_0 != 5) = false := bne_eq_false_iff_eq.mpr c24
      clear c24
      (first | rw [c24b0] | (simp only [i64_w, i32_w]; rw [c24b0]) | skip)
      have H' := Aside0.mk H
      clear H
      have hnb25 := NB137_138.out
      have hnc25 := NB138_137.out
      have hnb26 := NB137_139.out
      have hnc26 := NB139_137.out
      have hcz27_0 : wc.cell? ⟨gb137, 0, none⟩ = some (.int .i64 a0_0) := (blk_cell BK137.out 0).trans rfl
      have hcz27_1 : wc.cell? ⟨gb137, 1, none⟩ = some (.int .i64 a0_1) := (blk_cell BK137.out 1).trans rfl
      have hcz27_2 : wc.cell? ⟨gb137, 2, none⟩ = some (.int .i64 a0_2) := (blk_cell BK137.out 2).trans rfl
      have hcz27_3 : wc.cell? ⟨gb137, 3, none⟩ = some (.int .i64 a0_3) := (blk_cell BK137.out 3).trans rfl
      have hcz27_4 : wc.cell? ⟨gb137, 4, none⟩ = some (.int .i64 a0_4) := (blk_cell BK137.out 4).trans rfl
      have hfz27_0 := blk_frozen BK137.out 0
      have hfz27_1 := blk_frozen BK137.out 1
      have hfz27_2 := blk_frozen BK137.out 2
      have hfz27_3 := blk_frozen BK137.out 3
      have hfz27_4 := blk_frozen BK137.out 4
      have hnb28 := NB138_139.out
      have hnc28 := NB139_138.out
      have hcz29_0 : wc.cell? ⟨gb138, 0, none⟩ = some (.int .i64 a1_0) := (blk_cell BK138.out 0).trans rfl
      have hcz29_1 : wc.cell? ⟨gb138, 1, none⟩ = some (.int .i64 a1_1) := (blk_cell BK138.out 1).trans rfl
      have hcz29_2 : wc.cell? ⟨gb138, 2, none⟩ = some (.int .i64 a1_2) := (blk_cell BK138.out 2).trans rfl
      have hcz29_3 : wc.cell? ⟨gb138, 3, none⟩ = some (.int .i64 a1_3) := (blk_cell BK138.out 3).trans rfl
      have hcz29_4 : wc.cell? ⟨gb138, 4, none⟩ = some (.int .i64 a1_4) := (blk_cell BK138.out 4).trans rfl
      have hfz29_0 := blk_frozen BK138.out 0
      have hfz29_1 := blk_frozen BK138.out 1
      have hfz29_2 := blk_frozen BK138.out 2
      have hfz29_3 := blk_frozen BK138.out 3
      have hfz29_4 := blk_frozen BK138.out 4
      go_wp2
      go_meet
      case rel => exact ⟨_, ((a1_0 == 8)), (by first | rfl | (simp; done) | (simp [*]; done)), H', ⟨by have := HJ2.out; first | omega | exact Nat.le_refl _⟩, ⟨by (with_reducible repeat (first | refine blk_drewN ?_ _ | refine blk_drew ?_ | refine blk_alloc ?_ _)); exact BK137.out⟩, ⟨by (with_reducible repeat (first | refine blk_drewN ?_ _ | refine blk_drew ?_ | refine blk_alloc ?_ _)); exact BK138.out⟩, ⟨by (with_reducible repeat (first | refine blk_drewN ?_ _ | refine blk_drew ?_ | refine blk_alloc ?_ _)); exact BK139.out⟩, ⟨by repeat (first | (with_reducible first | exact HB.out | apply below_alloc | apply pw_below_drewN | apply below_drew1 | refine below_set ?_ GE137.out | refine below_set ?_ GE138.out | refine below_set ?_ GE139.out) | exact HB.out)⟩⟩
     ·rw [if_neg c24] at H
      have c24b0 : (a0_0 == 5) = false := beq_eq_false_iff_ne.mpr c24
      have c24b1 : (a0_0 != 5) = true := bne_iff_ne.mpr c24
      (first | rw [c24b0] | (simp only [i64_w, i32_w]; rw [c24b0]) | skip)
      have H' := Aside0.mk H
      clear H
      have hnb30 := NB137_138.out
      have hnc30 := NB138_137.out
      have hnb31 := NB137_139.out
      have hnc31 := NB139_137.out
      have hcz32_0 : wc.cell? ⟨gb137, 0, none⟩ = some (.int .i64 a0_0) := (blk_cell BK137.out 0).trans rfl
      have hcz32_1 : wc.cell? ⟨gb137, 1, none⟩ = some (.int .i64 a0_1) := (blk_cell BK137.out 1).trans rfl
      have hcz32_2 : wc.cell? ⟨gb137, 2, none⟩ = some (.int .i64 a0_2) := (blk_cell BK137.out 2).trans rfl
      have hcz32_3 : wc.cell? ⟨gb137, 3, none⟩ = some (.int .i64 a0_3) := (blk_cell BK137.out 3).trans rfl
      have hcz32_4 : wc.cell? ⟨gb137, 4, none⟩ = some (.int .i64 a0_4) := (blk_cell BK137.out 4).trans rfl
      have hfz32_0 := blk_frozen BK137.out 0
      have hfz32_1 := blk_frozen BK137.out 1
      have hfz32_2 := blk_frozen BK137.out 2
      have hfz32_3 := blk_frozen BK137.out 3
      have hfz32_4 := blk_frozen BK137.out 4
      go_wp2
      go_meet
      case rel => exact ⟨_, (false), (by first | rfl | (simp; done) | (simp [*]; done)), H', ⟨by have := HJ2.out; first | omega | exact Nat.le_refl _⟩, ⟨by (with_reducible repeat (first | refine blk_drewN ?_ _ | refine blk_drew ?_ | refine blk_alloc ?_ _)); exact BK137.out⟩, ⟨by (with_reducible repeat (first | refine blk_drewN ?_ _ | refine blk_drew ?_ | refine blk_alloc ?_ _)); exact BK138.out⟩, ⟨by (with_reducible repeat (first | refine blk_drewN ?_ _ | refine blk_drew ?_ | refine blk_alloc ?_ _)); exact BK139.out⟩, ⟨by repeat (first | (with_reducible first | exact HB.out | apply below_alloc | apply pw_below_drewN | apply below_drew1 | refine below_set ?_ GE137.out | refine below_set ?_ GE138.out | refine below_set ?_ GE139.out) | exact HB.out)⟩⟩
    case rest =>
     clear HC23
     try clear c1
     try clear c2
     try clear p2
     try clear c3
     try clear c5
     try clear c7
     try clear c7b0
     try clear c7b1
     try clear c8
     try clear c9
     try clear c11
     try clear c13
     try clear c14
     try clear c16
     try clear c17
     try clear c18
     try clear c20
     try clear c24
     try clear c24b0
     try clear c24b1
     try clear c25
     try clear c26
     try clear c28
     try clear c30
     try clear c31
     try clear hcz10_0
     try clear hcz10_1
     try clear hcz10_2
     try clear hcz10_3
     try clear hcz10_4
     try clear hcz12_0
     try clear hcz12_1
     try clear hcz12_2
     try clear hcz12_3
     try clear hcz12_4
     try clear hcz15_0
     try clear hcz15_1
     try clear hcz15_2
     try clear hcz15_3
     try clear hcz15_4
     try clear hcz19_0
     try clear hcz19_1
     try clear hcz19_2
     try clear hcz19_3
     try clear hcz19_4
     try clear hcz21_0
     try clear hcz21_1
     try clear hcz21_2
     try clear hcz21_3
     try clear hcz21_4
     try clear hcz22_0
     try clear hcz22_1
     try clear hcz22_2
     try clear hcz22_3
     try clear hcz22_4
     try clear hcz27_0
     try clear hcz27_1
     try clear hcz27_2
     try clear hcz27_3
     try clear hcz27_4
     try clear hcz29_0
     try clear hcz29_1
     try clear hcz29_2
     try clear hcz29_3
     try clear hcz29_4
     try clear hcz32_0
     try clear hcz32_1
     try clear hcz32_2
     try clear hcz32_3
     try clear hcz32_4
     try clear hfz10_0
     try clear hfz10_1
     try clear hfz10_2
     try clear hfz10_3
     try clear hfz10_4
     try clear hfz12_0
     try clear hfz12_1
     try clear hfz12_2
     try clear hfz12_3
     try clear hfz12_4
     try clear hfz15_0
     try clear hfz15_1
     try clear hfz15_2
     try clear hfz15_3
     try clear hfz15_4
     try clear hfz19_0
     try clear hfz19_1
     try clear hfz19_2
     try clear hfz19_3
     try clear hfz19_4
     try clear hfz21_0
     try clear hfz21_1
     try clear hfz21_2
     try clear hfz21_3
     try clear hfz21_4
     try clear hfz22_0
     try clear hfz22_1
     try clear hfz22_2
     try clear hfz22_3
     try clear hfz22_4
     try clear hfz27_0
     try clear hfz27_1
     try clear hfz27_2
     try clear hfz27_3
     try clear hfz27_4
     try clear hfz29_0
     try clear hfz29_1
     try clear hfz29_2
     try clear hfz29_3
     try clear hfz29_4
     try clear hfz32_0
     try clear hfz32_1
     try clear hfz32_2
     try clear hfz32_3
     try clear hfz32_4
     try clear p2
     obtain ⟨kq, x20_22, rfl, HA, HJ22, BK137, BK138, BK139, HB⟩ := hcut
     cases kq with
     | zero => exact absurd HA.out (by simp [opt_fused.j1])
     | succ kj22 =>
      have H := HA.out
      clear HA
      simp only [opt_fused.j1] at H
      by_cases c33 : x20_22 = true
      ·subst c33
       have H1 : (some (15, a0_1, a1_1, 0, 0, true)) = some (r1, r2, r3, r4, r5, r6) := by rw [if_pos rfl] at H; exact H
       clear H
       have H := H1
       clear H1
       simp only [Option.some.injEq, Prod.mk.injEq] at H
       obtain ⟨rfl, rfl, rfl, rfl, rfl, rfl⟩ := H
       have hnb34 := NB137_138.out
       have hnc34 := NB138_137.out
       have hnb35 := NB137_139.out
       have hnc35 := NB139_137.out
       have hcz36_0 : wc.cell? ⟨gb137, 0, none⟩ = some (.int .i64 a0_0) := (blk_cell BK137.out 0).trans rfl
       have hcz36_1 : wc.cell? ⟨gb137, 1, none⟩ = some (.int .i64 a0_1) := (blk_cell BK137.out 1).trans rfl
       have hcz36_2 : wc.cell? ⟨gb137, 2, none⟩ = some (.int .i64 a0_2) := (blk_cell BK137.out 2).trans rfl
       have hcz36_3 : wc.cell? ⟨gb137, 3, none⟩ = some (.int .i64 a0_3) := (blk_cell BK137.out 3).trans rfl
       have hcz36_4 : wc.cell? ⟨gb137, 4, none⟩ = some (.int .i64 a0_4) := (blk_cell BK137.out 4).trans rfl
       have hfz36_0 := blk_frozen BK137.out 0
       have hfz36_1 := blk_frozen BK137.out 1
       have hfz36_2 := blk_frozen BK137.out 2
       have hfz36_3 := blk_frozen BK137.out 3
       have hfz36_4 := blk_frozen BK137.out 4
       have hnb37 := NB138_139.out
       have hnc37 := NB139_138.out
       have hcz38_0 : wc.cell? ⟨gb138, 0, none⟩ = some (.int .i64 a1_0) := (blk_cell BK138.out 0).trans rfl
       have hcz38_1 : wc.cell? ⟨gb138, 1, none⟩ = some (.int .i64 a1_1) := (blk_cell BK138.out 1).trans rfl
       have hcz38_2 : wc.cell? ⟨gb138, 2, none⟩ = some (.int .i64 a1_2) := (blk_cell BK138.out 2).trans rfl
       have hcz38_3 : wc.cell? ⟨gb138, 3, none⟩ = some (.int .i64 a1_3) := (blk_cell BK138.out 3).trans rfl
       have hcz38_4 : wc.cell? ⟨gb138, 4, none⟩ = some (.int .i64 a1_4) := (blk_cell BK138.out 4).trans rfl
       have hfz38_0 := blk_frozen BK138.out 0
       have hfz38_1 := blk_frozen BK138.out 1
       have hfz38_2 := blk_frozen BK138.out 2
       have hfz38_3 := blk_frozen BK138.out 3
       have hfz38_4 := blk_frozen BK138.out 4
       have hcz39_0 : wc.cell? ⟨gb139, 0, none⟩ = some (.int .i64 0) := (blk_cell BK139.out 0).trans rfl
       have hcz39_1 : wc.cell? ⟨gb139, 1, none⟩ = some (.int .i64 0) := (blk_cell BK139.out 1).trans rfl
       have hcz39_2 : wc.cell? ⟨gb139, 2, none⟩ = some (.int .i64 0) := (blk_cell BK139.out 2).trans rfl
       have hcz39_3 : wc.cell? ⟨gb139, 3, none⟩ = some (.int .i64 0) := (blk_cell BK139.out 3).trans rfl
       have hcz39_4 : wc.cell? ⟨gb139, 4, none⟩ = some (.int .i64 0) := (blk_cell BK139.out 4).trans rfl
       have hfz39_0 := blk_frozen BK139.out 0
       have hfz39_1 := blk_frozen BK139.out 1
       have hfz39_2 := blk_frozen BK139.out 2
       have hfz39_3 := blk_frozen BK139.out 3
       have hfz39_4 := blk_frozen BK139.out 4
       go_wp2
       refine bodyPost_ret (results_ct rfl _ _ gb139 35 #[.int .i64 15, .int .i64 a0_1, .int .i64 a1_1, .int .i64 0, .int .i64 0] (0, 0) _ rfl (by (with_reducible repeat (first | refine blk_drewN ?_ _ | refine blk_drew ?_ | refine blk_alloc ?_ _)); refine blk_put (cs := #[.int .i64 15, .int .i64 a0_1, .int .i64 a1_1, .int .i64 0, .int .i64 0]) ?_ 4 _ rfl; (with_reducible repeat (first | refine blk_drewN ?_ _ | refine blk_drew ?_ | refine blk_alloc ?_ _)); refine blk_put (cs := #[.int .i64 15, .int .i64 a0_1, .int .i64 a1_1, .int .i64 0, .int .i64 0]) ?_ 3 _ rfl; (with_reducible repeat (first | refine blk_drewN ?_ _ | refine blk_drew ?_ | refine blk_alloc ?_ _)); refine blk_put (cs := #[.int .i64 15, .int .i64 a0_1, .int .i64 0, .int .i64 0, .int .i64 0]) ?_ 2 _ rfl; (with_reducible repeat (first | refine blk_drewN ?_ _ | refine blk_drew ?_ | refine blk_alloc ?_ _)); refine blk_put (cs := #[.int .i64 15, .int .i64 0, .int .i64 0, .int .i64 0, .int .i64 0]) ?_ 1 _ rfl; (with_reducible repeat (first | refine blk_drewN ?_ _ | refine blk_drew ?_ | refine blk_alloc ?_ _)); refine blk_put (cs := #[.int .i64 0, .int .i64 0, .int .i64 0, .int .i64 0, .int .i64 0]) ?_ 0 _ rfl; (with_reducible repeat (first | refine blk_drewN ?_ _ | refine blk_drew ?_ | refine blk_alloc ?_ _)); exact BK139.out) Try.underlying35 rfl (by kernel_rfl)) rfl ?_
       exact ⟨by first | rfl | (simp [errW_none, errW_some] <;> rfl) | (simp [*, errW_none, errW_some] <;> rfl), by repeat (first | (with_reducible first | exact HB.out | apply below_alloc | apply pw_below_drewN | apply below_drew1 | refine below_set ?_ GE137.out | refine below_set ?_ GE138.out | refine below_set ?_ GE139.out) | exact HB.out)⟩
      ·replace c33 := Bool.eq_false_iff.mpr c33
       subst c33
       have H1 : (if a0_0 = 17 then (if a1_0 = 18 then (some (25, a0_1, a1_1, 0, 0, true)) else (some (0, 0, 0, 0, 0, false))) else (some (0, 0, 0, 0, 0, false))) = some (r1, r2, r3, r4, r5, r6) := by rw [if_neg (show ¬ (false = true) by decide)] at H; exact H
       clear H
       have H := H1
       clear H1
       by_cases c40 : a0_0 = 17
       ·rw [if_pos c40] at H
        have c40b0 : (a0_0 == 17) = true := beq_iff_eq.mpr c40
        have c40b1 : (a0_0 != 17) = false := bne_eq_false_iff_eq.mpr c40
        clear c40
        by_cases c41 : a1_0 = 18
        ·rw [if_pos c41] at H
         have c41b0 : (a1_0 == 18) = true := beq_iff_eq.mpr c41
         have c41b1 : (a1_0 != 18) = false := bne_eq_false_iff_eq.mpr c41
         clear c41
         simp only [Option.some.injEq, Prod.mk.injEq] at H
         obtain ⟨rfl, rfl, rfl, rfl, rfl, rfl⟩ := H
         have hnb42 := NB137_138.out
         have hnc42 := NB138_137.out
         have hnb43 := NB137_139.out
         have hnc43 := NB139_137.out
         have hcz44_0 : wc.cell? ⟨gb137, 0, none⟩ = some (.int .i64 a0_0) := (blk_cell BK137.out 0).trans rfl
         have hcz44_1 : wc.cell? ⟨gb137, 1, none⟩ = some (.int .i64 a0_1) := (blk_cell BK137.out 1).trans rfl
         have hcz44_2 : wc.cell? ⟨gb137, 2, none⟩ = some (.int .i64 a0_2) := (blk_cell BK137.out 2).trans rfl
         have hcz44_3 : wc.cell? ⟨gb137, 3, none⟩ = some (.int .i64 a0_3) := (blk_cell BK137.out 3).trans rfl
         have hcz44_4 : wc.cell? ⟨gb137, 4, none⟩ = some (.int .i64 a0_4) := (blk_cell BK137.out 4).trans rfl
         have hfz44_0 := blk_frozen BK137.out 0
         have hfz44_1 := blk_frozen BK137.out 1
         have hfz44_2 := blk_frozen BK137.out 2
         have hfz44_3 := blk_frozen BK137.out 3
         have hfz44_4 := blk_frozen BK137.out 4
         have hnb45 := NB138_139.out
         have hnc45 := NB139_138.out
         have hcz46_0 : wc.cell? ⟨gb138, 0, none⟩ = some (.int .i64 a1_0) := (blk_cell BK138.out 0).trans rfl
         have hcz46_1 : wc.cell? ⟨gb138, 1, none⟩ = some (.int .i64 a1_1) := (blk_cell BK138.out 1).trans rfl
         have hcz46_2 : wc.cell? ⟨gb138, 2, none⟩ = some (.int .i64 a1_2) := (blk_cell BK138.out 2).trans rfl
         have hcz46_3 : wc.cell? ⟨gb138, 3, none⟩ = some (.int .i64 a1_3) := (blk_cell BK138.out 3).trans rfl
         have hcz46_4 : wc.cell? ⟨gb138, 4, none⟩ = some (.int .i64 a1_4) := (blk_cell BK138.out 4).trans rfl
         have hfz46_0 := blk_frozen BK138.out 0
         have hfz46_1 := blk_frozen BK138.out 1
         have hfz46_2 := blk_frozen BK138.out 2
         have hfz46_3 := blk_frozen BK138.out 3
         have hfz46_4 := blk_frozen BK138.out 4
         have hcz47_0 : wc.cell? ⟨gb139, 0, none⟩ = some (.int .i64 0) := (blk_cell BK139.out 0).trans rfl
         have hcz47_1 : wc.cell? ⟨gb139, 1, none⟩ = some (.int .i64 0) := (blk_cell BK139.out 1).trans rfl
         have hcz47_2 : wc.cell? ⟨gb139, 2, none⟩ = some (.int .i64 0) := (blk_cell BK139.out 2).trans rfl
         have hcz47_3 : wc.cell? ⟨gb139, 3, none⟩ = some (.int .i64 0) := (blk_cell BK139.out 3).trans rfl
         have hcz47_4 : wc.cell? ⟨gb139, 4, none⟩ = some (.int .i64 0) := (blk_cell BK139.out 4).trans rfl
         have hfz47_0 := blk_frozen BK139.out 0
         have hfz47_1 := blk_frozen BK139.out 1
         have hfz47_2 := blk_frozen BK139.out 2
         have hfz47_3 := blk_frozen BK139.out 3
         have hfz47_4 := blk_frozen BK139.out 4
         go_wp2
         refine bodyPost_ret (results_ct rfl _ _ gb139 35 #[.int .i64 25, .int .i64 a0_1, .int .i64 a1_1, .int .i64 0, .int .i64 0] (0, 0) _ rfl (by (with_reducible repeat (first | refine blk_drewN ?_ _ | refine blk_drew ?_ | refine blk_alloc ?_ _)); refine blk_put (cs := #[.int .i64 25, .int .i64 a0_1, .int .i64 a1_1, .int .i64 0, .int .i64 0]) ?_ 4 _ rfl; (with_reducible repeat (first | refine blk_drewN ?_ _ | refine blk_drew ?_ | refine blk_alloc ?_ _)); refine blk_put (cs := #[.int .i64 25, .int .i64 a0_1, .int .i64 a1_1, .int .i64 0, .int .i64 0]) ?_ 3 _ rfl; (with_reducible repeat (first | refine blk_drewN ?_ _ | refine blk_drew ?_ | refine blk_alloc ?_ _)); refine blk_put (cs := #[.int .i64 25, .int .i64 a0_1, .int .i64 0, .int .i64 0, .int .i64 0]) ?_ 2 _ rfl; (with_reducible repeat (first | refine blk_drewN ?_ _ | refine blk_drew ?_ | refine blk_alloc ?_ _)); refine blk_put (cs := #[.int .i64 25, .int .i64 0, .int .i64 0, .int .i64 0, .int .i64 0]) ?_ 1 _ rfl; (with_reducible repeat (first | refine blk_drewN ?_ _ | refine blk_drew ?_ | refine blk_alloc ?_ _)); refine blk_put (cs := #[.int .i64 0, .int .i64 0, .int .i64 0, .int .i64 0, .int .i64 0]) ?_ 0 _ rfl; (with_reducible repeat (first | refine blk_drewN ?_ _ | refine blk_drew ?_ | refine blk_alloc ?_ _)); exact BK139.out) Try.underlying35 rfl (by kernel_rfl)) rfl ?_
         exact ⟨by first | rfl | (simp [errW_none, errW_some] <;> rfl) | (simp [*, errW_none, errW_some] <;> rfl), by repeat (first | (with_reducible first | exact HB.out | apply below_alloc | apply pw_below_drewN | apply below_drew1 | refine below_set ?_ GE137.out | refine below_set ?_ GE138.out | refine below_set ?_ GE139.out) | exact HB.out)⟩
        ·rw [if_neg c41] at H
         have c41b0 : (a1_0 == 18) = false := beq_eq_false_iff_ne.mpr c41
         have c41b1 : (a1_0 != 18) = true := bne_iff_ne.mpr c41
         simp only [Option.some.injEq, Prod.mk.injEq] at H
         obtain ⟨rfl, rfl, rfl, rfl, rfl, rfl⟩ := H
         have hnb48 := NB137_138.out
         have hnc48 := NB138_137.out
         have hnb49 := NB137_139.out
         have hnc49 := NB139_137.out
         have hcz50_0 : wc.cell? ⟨gb137, 0, none⟩ = some (.int .i64 a0_0) := (blk_cell BK137.out 0).trans rfl
         have hcz50_1 : wc.cell? ⟨gb137, 1, none⟩ = some (.int .i64 a0_1) := (blk_cell BK137.out 1).trans rfl
         have hcz50_2 : wc.cell? ⟨gb137, 2, none⟩ = some (.int .i64 a0_2) := (blk_cell BK137.out 2).trans rfl
         have hcz50_3 : wc.cell? ⟨gb137, 3, none⟩ = some (.int .i64 a0_3) := (blk_cell BK137.out 3).trans rfl
         have hcz50_4 : wc.cell? ⟨gb137, 4, none⟩ = some (.int .i64 a0_4) := (blk_cell BK137.out 4).trans rfl
         have hfz50_0 := blk_frozen BK137.out 0
         have hfz50_1 := blk_frozen BK137.out 1
         have hfz50_2 := blk_frozen BK137.out 2
         have hfz50_3 := blk_frozen BK137.out 3
         have hfz50_4 := blk_frozen BK137.out 4
         have hnb51 := NB138_139.out
         have hnc51 := NB139_138.out
         have hcz52_0 : wc.cell? ⟨gb138, 0, none⟩ = some (.int .i64 a1_0) := (blk_cell BK138.out 0).trans rfl
         have hcz52_1 : wc.cell? ⟨gb138, 1, none⟩ = some (.int .i64 a1_1) := (blk_cell BK138.out 1).trans rfl
         have hcz52_2 : wc.cell? ⟨gb138, 2, none⟩ = some (.int .i64 a1_2) := (blk_cell BK138.out 2).trans rfl
         have hcz52_3 : wc.cell? ⟨gb138, 3, none⟩ = some (.int .i64 a1_3) := (blk_cell BK138.out 3).trans rfl
         have hcz52_4 : wc.cell? ⟨gb138, 4, none⟩ = some (.int .i64 a1_4) := (blk_cell BK138.out 4).trans rfl
         have hfz52_0 := blk_frozen BK138.out 0
         have hfz52_1 := blk_frozen BK138.out 1
         have hfz52_2 := blk_frozen BK138.out 2
         have hfz52_3 := blk_frozen BK138.out 3
         have hfz52_4 := blk_frozen BK138.out 4
         have hcz53_0 : wc.cell? ⟨gb139, 0, none⟩ = some (.int .i64 0) := (blk_cell BK139.out 0).trans rfl
         have hcz53_1 : wc.cell? ⟨gb139, 1, none⟩ = some (.int .i64 0) := (blk_cell BK139.out 1).trans rfl
         have hcz53_2 : wc.cell? ⟨gb139, 2, none⟩ = some (.int .i64 0) := (blk_cell BK139.out 2).trans rfl
         have hcz53_3 : wc.cell? ⟨gb139, 3, none⟩ = some (.int .i64 0) := (blk_cell BK139.out 3).trans rfl
         have hcz53_4 : wc.cell? ⟨gb139, 4, none⟩ = some (.int .i64 0) := (blk_cell BK139.out 4).trans rfl
         have hfz53_0 := blk_frozen BK139.out 0
         have hfz53_1 := blk_frozen BK139.out 1
         have hfz53_2 := blk_frozen BK139.out 2
         have hfz53_3 := blk_frozen BK139.out 3
         have hfz53_4 := blk_frozen BK139.out 4
         go_wp2
         refine bodyPost_ret (results_ct rfl _ _ gb139 35 #[.int .i64 0, .int .i64 0, .int .i64 0, .int .i64 0, .int .i64 0] (0, 0) _ rfl (by (with_reducible repeat (first | refine blk_drewN ?_ _ | refine blk_drew ?_ | refine blk_alloc ?_ _)); refine blk_put (cs := #[.int .i64 0, .int .i64 0, .int .i64 0, .int .i64 0, .int .i64 0]) ?_ 4 _ rfl; (with_reducible repeat (first | refine blk_drewN ?_ _ | refine blk_drew ?_ | refine blk_alloc ?_ _)); refine blk_put (cs := #[.int .i64 0, .int .i64 0, .int .i64 0, .int .i64 0, .int .i64 0]) ?_ 3 _ rfl; (with_reducible repeat (first | refine blk_drewN ?_ _ | refine blk_drew ?_ | refine blk_alloc ?_ _)); refine blk_put (cs := #[.int .i64 0, .int .i64 0, .int .i64 0, .int .i64 0, .int .i64 0]) ?_ 2 _ rfl; (with_reducible repeat (first | refine blk_drewN ?_ _ | refine blk_drew ?_ | refine blk_alloc ?_ _)); refine blk_put (cs := #[.int .i64 0, .int .i64 0, .int .i64 0, .int .i64 0, .int .i64 0]) ?_ 1 _ rfl; (with_reducible repeat (first | refine blk_drewN ?_ _ | refine blk_drew ?_ | refine blk_alloc ?_ _)); refine blk_put (cs := #[.int .i64 0, .int .i64 0, .int .i64 0, .int .i64 0, .int .i64 0]) ?_ 0 _ rfl; (with_reducible repeat (first | refine blk_drewN ?_ _ | refine blk_drew ?_ | refine blk_alloc ?_ _)); exact BK139.out) Try.underlying35 rfl (by kernel_rfl)) rfl ?_
         exact ⟨by first | rfl | (simp [errW_none, errW_some] <;> rfl) | (simp [*, errW_none, errW_some] <;> rfl), by repeat (first | (with_reducible first | exact HB.out | apply below_alloc | apply pw_below_drewN | apply below_drew1 | refine below_set ?_ GE137.out | refine below_set ?_ GE138.out | refine below_set ?_ GE139.out) | exact HB.out)⟩
       ·rw [if_neg c40] at H
        have c40b0 : (a0_0 == 17) = false := beq_eq_false_iff_ne.mpr c40
        have c40b1 : (a0_0 != 17) = true := bne_iff_ne.mpr c40
        simp only [Option.some.injEq, Prod.mk.injEq] at H
        obtain ⟨rfl, rfl, rfl, rfl, rfl, rfl⟩ := H
        have hnb54 := NB137_138.out
        have hnc54 := NB138_137.out
        have hnb55 := NB137_139.out
        have hnc55 := NB139_137.out
        have hcz56_0 : wc.cell? ⟨gb137, 0, none⟩ = some (.int .i64 a0_0) := (blk_cell BK137.out 0).trans rfl
        have hcz56_1 : wc.cell? ⟨gb137, 1, none⟩ = some (.int .i64 a0_1) := (blk_cell BK137.out 1).trans rfl
        have hcz56_2 : wc.cell? ⟨gb137, 2, none⟩ = some (.int .i64 a0_2) := (blk_cell BK137.out 2).trans rfl
        have hcz56_3 : wc.cell? ⟨gb137, 3, none⟩ = some (.int .i64 a0_3) := (blk_cell BK137.out 3).trans rfl
        have hcz56_4 : wc.cell? ⟨gb137, 4, none⟩ = some (.int .i64 a0_4) := (blk_cell BK137.out 4).trans rfl
        have hfz56_0 := blk_frozen BK137.out 0
        have hfz56_1 := blk_frozen BK137.out 1
        have hfz56_2 := blk_frozen BK137.out 2
        have hfz56_3 := blk_frozen BK137.out 3
        have hfz56_4 := blk_frozen BK137.out 4
        have hnb57 := NB139_138.out
        have hnc57 := NB138_139.out
        have hcz58_0 : wc.cell? ⟨gb139, 0, none⟩ = some (.int .i64 0) := (blk_cell BK139.out 0).trans rfl
        have hcz58_1 : wc.cell? ⟨gb139, 1, none⟩ = some (.int .i64 0) := (blk_cell BK139.out 1).trans rfl
        have hcz58_2 : wc.cell? ⟨gb139, 2, none⟩ = some (.int .i64 0) := (blk_cell BK139.out 2).trans rfl
        have hcz58_3 : wc.cell? ⟨gb139, 3, none⟩ = some (.int .i64 0) := (blk_cell BK139.out 3).trans rfl
        have hcz58_4 : wc.cell? ⟨gb139, 4, none⟩ = some (.int .i64 0) := (blk_cell BK139.out 4).trans rfl
        have hfz58_0 := blk_frozen BK139.out 0
        have hfz58_1 := blk_frozen BK139.out 1
        have hfz58_2 := blk_frozen BK139.out 2
        have hfz58_3 := blk_frozen BK139.out 3
        have hfz58_4 := blk_frozen BK139.out 4
        go_wp2
        refine bodyPost_ret (results_ct rfl _ _ gb139 35 #[.int .i64 0, .int .i64 0, .int .i64 0, .int .i64 0, .int .i64 0] (0, 0) _ rfl (by (with_reducible repeat (first | refine blk_drewN ?_ _ | refine blk_drew ?_ | refine blk_alloc ?_ _)); refine blk_put (cs := #[.int .i64 0, .int .i64 0, .int .i64 0, .int .i64 0, .int .i64 0]) ?_ 4 _ rfl; (with_reducible repeat (first | refine blk_drewN ?_ _ | refine blk_drew ?_ | refine blk_alloc ?_ _)); refine blk_put (cs := #[.int .i64 0, .int .i64 0, .int .i64 0, .int .i64 0, .int .i64 0]) ?_ 3 _ rfl; (with_reducible repeat (first | refine blk_drewN ?_ _ | refine blk_drew ?_ | refine blk_alloc ?_ _)); refine blk_put (cs := #[.int .i64 0, .int .i64 0, .int .i64 0, .int .i64 0, .int .i64 0]) ?_ 2 _ rfl; (with_reducible repeat (first | refine blk_drewN ?_ _ | refine blk_drew ?_ | refine blk_alloc ?_ _)); refine blk_put (cs := #[.int .i64 0, .int .i64 0, .int .i64 0, .int .i64 0, .int .i64 0]) ?_ 1 _ rfl; (with_reducible repeat (first | refine blk_drewN ?_ _ | refine blk_drew ?_ | refine blk_alloc ?_ _)); refine blk_put (cs := #[.int .i64 0, .int .i64 0, .int .i64 0, .int .i64 0, .int .i64 0]) ?_ 0 _ rfl; (with_reducible repeat (first | refine blk_drewN ?_ _ | refine blk_drew ?_ | refine blk_alloc ?_ _)); exact BK139.out) Try.underlying35 rfl (by kernel_rfl)) rfl ?_
        exact ⟨by first | rfl | (simp [errW_none, errW_some] <;> rfl) | (simp [*, errW_none, errW_some] <;> rfl), by repeat (first | (with_reducible first | exact HB.out | apply below_alloc | apply pw_below_drewN | apply below_drew1 | refine below_set ?_ GE137.out | refine below_set ?_ GE138.out | refine below_set ?_ GE139.out) | exact HB.out)⟩
end Go.Proofs.Ytedghbjmhcgilaa.POpt
end
section
namespace Go.Proofs.Ytedghbjmhcgilaa.A
open Go.RowKit Go.Shelf Go.Proofs.YtedghbjmhcgilaaW.PrintWords Go.Proofs.YtedghbjmhcgilaaW.PrintLast Go.Proofs.YtedghbjmhcgilaaW.PrintMore
open Go.Proofs.Ytedghbjmhcgilaa.POpt
set_option linter.unusedVariables false
set_option linter.unusedSimpArgs false
def vals (l0 : List S35) (l1 : List S37) : List Int := l0.filterMap (fun x => (namedOff x.f0).map (getF x)) ++ l1.map S37.f1
def mark (n : Nat) (T : List Bool) (c : Int) : List Bool := if 0 ≤ c ∧ c < n then T.set c.toNat true else T
def targets (l0 : List S35) (l1 : List S37) : List Bool := (vals l0 l1).foldl (mark l0.length) (List.replicate l0.length false)
def valOf (l0 : List S35) (l1 : List S37) (gS : Nat) (x : Int × Addr) : Int := if x.2.block = gS then getF (l0.getD (x.2.off / 5) z35) (x.2.off % 5) else (l1.getD (x.2.off / 2) z37).f1
theorem mark_len (n : Nat) (T : List Bool) (c : Int) : (mark n T c).length = T.length := by unfold mark; split <;> simp
theorem marks_len (n : Nat) (L : List Int) : ∀ T : List Bool, (L.foldl (mark n) T).length = T.length := by
  induction L with
  | nil => intro T; rfl
  | cons c L ih => intro T; rw [List.foldl_cons, ih, mark_len]
theorem targets_len (l0 : List S35) (l1 : List S37) : (targets l0 l1).length = l0.length := by unfold targets; rw [marks_len]; simp
theorem vals_S {l0 : List S35} {l1 : List S37} {gS : Nat} (k : Nat) (hk : k ≤ l0.length) : (stepPlaces gS 0 (l0.map S35.f0) k).map (valOf l0 l1 gS) = (l0.take k).filterMap (fun x => (namedOff x.f0).map (getF x)) := by
  induction k with
  | zero => simp [stepPlaces]
  | succ k ih =>
    have hlt : k < l0.length := by omega
    have hop : (l0.map S35.f0).getD k 0 = l0[k].f0 := by simp [List.getD, hlt]
    rw [stepPlaces_succ, List.map_append, ih (by omega), hop, List.take_succ_eq_append_getElem hlt, List.filterMap_append]
    congr 1
    cases hno : namedOff l0[k].f0 with
    | none => simp [hno]
    | some j =>
      have h12 := namedOff_12 hno
      have e1 : (k * 5 + j) / 5 = k := by omega
      have e2 : (k * 5 + j) % 5 = j := by omega
      simp [hno, valOf, e1, e2, List.getD, hlt]
theorem vals_R {l0 : List S35} {l1 : List S37} {gS gR : Nat} (hne : gS ≠ gR) (k : Nat) (hk : k ≤ l1.length) : (rowPlaces gR 0 k).map (valOf l0 l1 gS) = (l1.take k).map S37.f1 := by
  induction k with
  | zero => simp [rowPlaces]
  | succ k ih =>
    have hlt : k < l1.length := by omega
    have e1 : (k * 2 + 1) / 2 = k := by omega
    rw [rowPlaces_succ, List.map_append, ih (by omega), List.take_succ_eq_append_getElem hlt, List.map_append]
    congr 1
    simp [valOf, e1, List.getD, hlt, Ne.symm hne]
theorem vals_all {l0 : List S35} {l1 : List S37} {gS gR : Nat} (hne : gS ≠ gR) : (allPlaces gS 0 (l0.map S35.f0) gR 0 l1.length).map (valOf l0 l1 gS) = vals l0 l1 := by
  unfold allPlaces vals
  rw [List.map_append, List.length_map, vals_S l0.length (Nat.le_refl _), vals_R hne l1.length (Nat.le_refl _), List.take_length, List.take_length]
theorem targets_fold {l0 : List S35} {l1 : List S37} {gS gR : Nat} (hne : gS ≠ gR) : (allPlaces gS 0 (l0.map S35.f0) gR 0 l1.length).foldl (fun T x => mark l0.length T (valOf l0 l1 gS x)) (List.replicate l0.length false) = targets l0 l1 := by
  unfold targets
  rw [← vals_all hne, List.foldl_map]
def fz (x y : S35) : Option S35 :=
  if x.f0 = 5 ∧ y.f0 = 7 then some ⟨14, x.f1, y.f1, 0, 0⟩ else if x.f0 = 5 ∧ y.f0 = 8 then some ⟨15, x.f1, y.f1, 0, 0⟩ else if x.f0 = 17 ∧ y.f0 = 18 then some ⟨25, x.f1, y.f1, 0, 0⟩ else none
theorem fused_some {x y z : S35} (h : fz x y = some z) : opt_fused.f 3 x.f0 x.f1 x.f2 x.f3 x.f4 y.f0 y.f1 y.f2 y.f3 y.f4 = some (z.f0, z.f1, z.f2, z.f3, z.f4, true) := by
  unfold fz at h
  split at h
  · next hc => injection h with h; subst h; simp [opt_fused.f, opt_fused.j0, hc]
  · next hc =>
    split at h
    · next hd => injection h with h; subst h; simp [opt_fused.f, opt_fused.j0, opt_fused.j1, hd]
    · next hd =>
      split at h
      · next he => injection h with h; subst h; simp [opt_fused.f, opt_fused.j0, opt_fused.j1, he]
      · cases h
theorem fused_none {x y : S35} (h : fz x y = none) : opt_fused.f 3 x.f0 x.f1 x.f2 x.f3 x.f4 y.f0 y.f1 y.f2 y.f3 y.f4 = some (0, 0, 0, 0, 0, false) := by
  unfold fz at h
  split at h
  · cases h
  · next hc =>
    split at h
    · cases h
    · next hd =>
      split at h
      · cases h
      · next he =>
        by_cases h5 : x.f0 = 5
        · have h7 : y.f0 ≠ 7 := fun e => hc ⟨h5, e⟩
          have h8 : y.f0 ≠ 8 := fun e => hd ⟨h5, e⟩
          simp [opt_fused.f, opt_fused.j0, opt_fused.j1, h5, h7, h8]
        · by_cases h17 : x.f0 = 17
          · have h18 : y.f0 ≠ 18 := fun e => he ⟨h17, e⟩
            simp [opt_fused.f, opt_fused.j0, opt_fused.j1, h17, h18]
          · simp [opt_fused.f, opt_fused.j0, opt_fused.j1, h5, h17]
def fuseGo (T : List Bool) : Nat → List S35 → List Bool → Nat → List S35 × List Bool
  | 0, s, o, _ => (s, o)
  | f + 1, s, o, i =>
    if i + 1 < s.length then
      match fz (s.getD i z35) (s.getD (i + 1) z35) with
      | some z => if T.getD (i + 1) false = false then fuseGo T f (s.set i z) (o.set (i + 1) true) (i + 2) else fuseGo T f s o (i + 1)
      | none => fuseGo T f s o (i + 1)
    else (s, o)
theorem fuseGo_end {T : List Bool} {f : Nat} {s : List S35} {o : List Bool} {i : Nat} (h : ¬ i + 1 < s.length) : fuseGo T f s o i = (s, o) := by
  cases f with
  | zero => rfl
  | succ f => rw [fuseGo, if_neg h]
theorem fuseGo_none {T : List Bool} {f : Nat} {s : List S35} {o : List Bool} {i : Nat} (h : i + 1 < s.length) (hz : fz (s.getD i z35) (s.getD (i + 1) z35) = none) : fuseGo T (f + 1) s o i = fuseGo T f s o (i + 1) := by
  rw [fuseGo, if_pos h, hz]
theorem fuseGo_named {T : List Bool} {f : Nat} {s : List S35} {o : List Bool} {i : Nat} {z : S35} (h : i + 1 < s.length) (hz : fz (s.getD i z35) (s.getD (i + 1) z35) = some z) (ht : T.getD (i + 1) false = true) : fuseGo T (f + 1) s o i = fuseGo T f s o (i + 1) := by
  rw [fuseGo, if_pos h, hz]
  simp only [ht]
  rfl
theorem fuseGo_some {T : List Bool} {f : Nat} {s : List S35} {o : List Bool} {i : Nat} {z : S35} (h : i + 1 < s.length) (hz : fz (s.getD i z35) (s.getD (i + 1) z35) = some z) (ht : T.getD (i + 1) false = false) : fuseGo T (f + 1) s o i = fuseGo T f (s.set i z) (o.set (i + 1) true) (i + 2) := by
  rw [fuseGo, if_pos h, hz]
  simp only [ht, if_true]
theorem fz_wf {x y z : S35} (hx : wfS x) (hy : wfS y) (h : fz x y = some z) : wfS z := by
  unfold fz at h
  repeat (split at h <;> first | (injection h with h; subst h; exact ⟨hx.1, hy.1⟩) | skip)
  cases h
theorem set_wf {L : List S35} (h : ∀ x ∈ L, wfS x) (i : Nat) {z : S35} (hz : wfS z) : ∀ x ∈ L.set i z, wfS x := by
  intro x hx
  rcases List.mem_or_eq_of_mem_set hx with hx | rfl
  · exact h x hx
  · exact hz
def fuseEnd (l0 : List S35) (l1 : List S37) : List S35 × List Bool := fuseGo (targets l0 l1) l0.length l0 (List.replicate l0.length false) 0
def fuseP (l0 : List S35) (l1 : List S37) : List S35 × List S37 :=
  ((keptAt (fuseEnd l0 l1).1 (fuseEnd l0 l1).2 l0.length).map (placed (toNow (fuseEnd l0 l1).2 l0.length)), l1.map (placedR (toNow (fuseEnd l0 l1).2 l0.length)))
end Go.Proofs.Ytedghbjmhcgilaa.A
end
section
namespace Go.Proofs.Ytedghbjmhcgilaa.A
open Go.RowKit Go.Shelf Go.Maps Go.Proofs.YtedghbjmhcgilaaW.PrintWords Go.Proofs.YtedghbjmhcgilaaW.PrintLast Go.Proofs.YtedghbjmhcgilaaW.PrintMore
open Go.Proofs.Ytedghbjmhcgilaa.POpt
attribute [local go_sem] Oper.semAt_some
set_option linter.unusedVariables false
set_option linter.unusedSimpArgs false
structure MInv (l0 : List S35) (l1 : List S37) (w w3 : World) (gS gT bT : Nat) (vT : Value) (pre : List (Int × Addr)) (W : World) : Prop where
  size : w3.heap.size ≤ W.heap.size
  below : Below w.heap.size w W
  same : ∀ k, k < w3.heap.size → k ≠ gT → W.heap[k]? = w3.heap[k]?
  row : Kd.bool.R 4 W bT (fun k => k < w3.heap.size) vT (pre.foldl (fun T x => mark l0.length T (valOf l0 l1 gS x)) (List.replicate l0.length false))
theorem MInv.move {l0 : List S35} {l1 : List S37} {w w3 : World} {gS gT bT : Nat} {vT : Value} {pre : List (Int × Addr)} {W : World} (h : MInv l0 l1 w w3 gS gT bT vT pre W) {W' : World} {row : Option Nat} (hg : W.grownBy W' row) (hr : ∀ r, row = some r → w3.heap.size ≤ r) (hw : w.heap.size ≤ w3.heap.size) :
    MInv l0 l1 w w3 gS gT bT vT pre W' := by
  have hm : ∀ k, k < w3.heap.size → W'.heap[k]? = W.heap[k]? := fun k hk => hg.block k (Nat.lt_of_lt_of_le hk h.size) (fun e => by have := hr k e.symm; omega)
  exact ⟨Nat.le_trans h.size hg.size, h.below.grown hg h.below.size (fun k e => by have := hr k e; omega), fun k hk h1 => (hm k hk).trans (h.same k hk h1), Kd.R_move h.row (fun k hk => hm k hk)⟩
theorem mfold_len (n : Nat) (v : Int × Addr → Int) (pre : List (Int × Addr)) : ∀ T : List Bool, (pre.foldl (fun T x => mark n T (v x)) T).length = T.length := by
  induction pre with
  | nil => intro T; rfl
  | cons x pre ih => intro T; rw [List.foldl_cons, ih, mark_len]
theorem ones5 (z : S35) : ∀ q ∈ ([.int .i64 z.f0, .int .i64 z.f1, .int .i64 z.f2, .int .i64 z.f3, .int .i64 z.f4] : List Value), q.oneCell' = true := by
  intro q hq
  simp only [List.mem_cons, List.not_mem_nil, or_false] at hq
  rcases hq with rfl | rfl | rfl | rfl | rfl <;> rfl
theorem ones1 : ∀ q ∈ ([.bool true] : List Value), q.oneCell' = true := by
  intro q hq
  simp only [List.mem_cons, List.not_mem_nil, or_false] at hq
  subst hq
  rfl
theorem bthen {w W W' : World} (h : Below w.heap.size w W) (k : Below W.heap.size W W') : Below w.heap.size w W' := h.trans (k.mono h.size)
theorem bkeep {W W' : World} {p : Addr} {v : Value} (hb : Below W.heap.size W W') (h : W.cell? p = some v) : W'.cell? p = some v := (hb.cell (World.block_lt_of_cell? _ _ h)).trans h
set_option maxRecDepth 100000 in
set_option maxHeartbeats 2000000 in
theorem fuse_calls (A0 : Option Addr) (c0 : Nat) (l0 : List S35) (A1 : Option Addr) (c1 : Nat) (l1 : List S37) (w : World) (bV : Nat) (okS okR : Nat → Prop)
    (hr0 : Kd.R k35 35 w bV okS (.slice A0 l0.length c0) l0) (hr1 : Kd.R k37 37 w bV okR (.slice A1 l1.length c1) l1)
    (hs0 : l0.length < 3518437208883) (hs1 : l1.length ≤ 140737488355328) (hbV : bV ≤ w.heap.size) (hw0 : ∀ x ∈ l0, wfS x) (hw1 : ∀ x ∈ l1, wfI x.f1) :
    Calls Try.prog 38 #[.slice A0 l0.length c0, .slice A1 l1.length c1] w fun e w' => ∃ v : Value, e = .returned v ∧ Kd.R k35 35 w' w.heap.size (fun _ => True) v (fuseP l0 l1).1 ∧ Kd.R k37 37 w' bV okR (.slice A1 l1.length c1) (fuseP l0 l1).2 ∧ Below bV w w' ∧ (∀ k, k < w.heap.size → some k ≠ (Value.slice A0 l0.length c0).ownBlock → some k ≠ (Value.slice A1 l1.length c1).ownBlock → w'.heap[k]? = w.heap[k]?) := by
  refine (callsIn_wide (n := 8)).1 ?_
  refine callsIn_of_wp_marks Try.func38 rfl trivial ?_ rfl
  simp only [Try.ntmps38, List.size_toArray, List.length_cons, List.length_nil, Nat.reduceAdd, Nat.reduceSub, Array.replicate_succ, Array.replicate_zero, List.push_toArray, List.append_toArray, List.nil_append, List.cons_append]
  rw [wpIn_wide]
  have HR0 := Lib.hid hr0
  have HR1 := Lib.hid hr1
  have HW0 := Lib.hid hw0
  have HW1 := Lib.hid hw1
  clear hr0 hr1 hw0 hw1
  go_wp2_with (first | ((with_reducible refine gate_dst (N := 14) rfl ?_); go_loud (refine Kd.R_make Kd.bool _ 4 rfl (N := 14) rfl 55 _ _ rfl (l0.length : Int) rfl rfl Try.underlying55 (.bool false) 1 info4 rfl (by decide) (by omega) false (ok := fun _ => True) (okp := fun _ => True) rfl (fun _ hk => hk) trivial (by omega) (by simp; omega) (Below.refl _ _) (Nat.le_refl _) ?_); go_loud (intro v1 w1 ho1 hb1 hg1 hnew1; obtain ⟨At, ct, ev1⟩ := Kd.R_slice ho1; rw [List.length_replicate, Int.toNat_natCast] at ev1; subst ev1; rw [Int.toNat_natCast] at ho1; have HO1 := Lib.hid ho1; have HB1 := Lib.hid hb1; have hz1 := hb1.size; simp only [World.size_alloc] at hz1; have kx := (blk_cell (blk_below (blk_new w (.cells #[.slice A0 l0.length c0] 27 (0, 0))) hb1) 0); simp only [List.getElem?_toArray, List.getElem?_cons_zero] at kx; have hzx : w.heap.size < w1.heap.size := (by omega); clear ho1 hb1 hg1 hnew1)))
  obtain ⟨Ax, cx, he, hcl, hC1⟩ := Kd.R_reads HR1.out
  injection he with e1 e2 e3
  subst e1 e3
  obtain ⟨Ay, cy, he, hcl0, hC0⟩ := Kd.R_reads HR0.out
  injection he with e1 e2 e3
  subst e1 e3
  refine (places_calls _ _ A0 A1 l0.length c0 l1.length c1 _ rfl rfl).mono ?_
  rintro e w3 ⟨rfl, hw3⟩
  dsimp only
  go_wp2_with fail
  rw [← wpIn_wide (n := 8)]
  have zz3 : w3.heap.size = w1.heap.size + 3 := by rw [← hw3]; simp
  have h3at : ∀ k, k < w1.heap.size → w3.heap[k]? = w1.heap[k]? := fun k h1 => by
    rw [← hw3, Below.heap_alloc _ _ _ (by simp; omega), Below.heap_alloc _ _ _ (by simp; omega), Below.heap_alloc _ _ _ h1]
  have h1at : ∀ k, k < w.heap.size → w1.heap[k]? = w.heap[k]? := fun k h1 => (HB1.out.block k (by simp; omega)).trans (Below.heap_alloc _ _ _ h1)
  have hBw1 : Below w.heap.size w w1 := ((Below.refl _ _).alloc (Nat.le_refl _) _).trans (HB1.out.mono (by simp))
  have hKb0 : Below w.heap.size w w3 := by rw [← hw3]; exact ((hBw1.alloc (by omega) _).alloc (by simp; omega) _).alloc (by simp; omega) _
  have b0' : w3.heap[w.heap.size]? = some (.cells #[.slice A0 l0.length c0] 27 (0, 0)) := (h3at _ hzx).trans (blk_below (blk_new _ _) HB1.out)
  have b5' : w3.heap[w1.heap.size]? = some (.cells #[.slice At l0.length ct] 55 (0, 0)) := by
    rw [← hw3]; exact blk_alloc (blk_alloc (blk_new w1 _) _) _
  have c1' : w3.heap[w1.heap.size + 1]? = some (.cells #[.slice A0 l0.length c0] 27 (0, 0)) := by
    rw [← hw3]
    have := blk_alloc (blk_new (w1.alloc (.cells #[.slice At l0.length ct] 55)) (.cells #[.slice A0 l0.length c0] 27)) (.cells #[.slice A1 l1.length c1] 28)
    simpa using this
  have c2' : w3.heap[w1.heap.size + 1 + 1]? = some (.cells #[.slice A1 l1.length c1] 28 (0, 0)) := by
    rw [← hw3]
    have := blk_new ((w1.alloc (.cells #[.slice At l0.length ct] 55)).alloc (.cells #[.slice A0 l0.length c0] 27)) (.cells #[.slice A1 l1.length c1] 28)
    simpa using this
  have hVT := Kd.R_move (Kd.R_bound HO1.out) (w1 := w3) (fun k hk => h3at k hk.2.2.1)
  have hV0 := Kd.R_move (Kd.R_bound HR0.out) (w1 := w3) (fun k hk => (h3at k (by have := hk.2.2.1; omega)).trans (h1at k hk.2.2.1))
  have hV2 := Kd.R_move (Kd.R_bound HR1.out) (w1 := w3) (fun k hk => (h3at k (by have := hk.2.2.1; omega)).trans (h1at k hk.2.2.1))
  simp only [World.size_alloc] at hVT
  clear hw3 h3at
  obtain ⟨gT, hT, sT⟩ : ∃ gT, (0 < l0.length → At = some ⟨gT, 0, none⟩) ∧ ((w.heap.size + 1 ≤ gT ∧ gT < w1.heap.size ∧ 0 < l0.length) ∨ (l0.length = 0 ∧ gT = w3.heap.size + 7)) := by
    by_cases hn : 0 < l0.length
    · obtain ⟨g, cells, hA, hbg, hgl, hok, hh, _, _⟩ := R_shape hVT hn (by show 0 < 1; omega)
      exact ⟨g, fun _ => hA, .inl ⟨hok.2.1, hok.2.2.1, hn⟩⟩
    · exact ⟨_, fun h => absurd h hn, .inr ⟨by omega, rfl⟩⟩
  obtain ⟨gS, hS, sS⟩ : ∃ gS, (0 < l0.length → A0 = some ⟨gS, 0, none⟩) ∧ ((bV ≤ gS ∧ gS < w.heap.size ∧ 0 < l0.length ∧ ∃ cells, w3.heap[gS]? = some (.cells cells 35 (0, 0))) ∨ (l0.length = 0 ∧ gS = w3.heap.size + 5)) := by
    by_cases hn : 0 < l0.length
    · obtain ⟨g, cells, hA, hbg, hgl, hok, hh, _, _⟩ := R_shape hV0 hn (by show 0 < 5; omega)
      exact ⟨g, fun _ => hA, .inl ⟨hok.2.1, hok.2.2.1, hn, cells, hh⟩⟩
    · exact ⟨_, fun h => absurd h hn, .inr ⟨by omega, rfl⟩⟩
  obtain ⟨gR, hR, sR⟩ : ∃ gR, (0 < l1.length → A1 = some ⟨gR, 0, none⟩) ∧ ((bV ≤ gR ∧ gR < w.heap.size ∧ 0 < l1.length ∧ ∃ cells, w3.heap[gR]? = some (.cells cells 37 (0, 0))) ∨ (l1.length = 0 ∧ gR = w3.heap.size + 6)) := by
    by_cases hn : 0 < l1.length
    · obtain ⟨g, cells, hA, hbg, hgl, hok, hh, _, _⟩ := R_shape hV2 hn (by show 0 < 2; omega)
      exact ⟨g, fun _ => hA, .inl ⟨hok.2.1, hok.2.2.1, hn, cells, hh⟩⟩
    · exact ⟨_, fun h => absurd h hn, .inr ⟨by omega, rfl⟩⟩
  have hne : gS ≠ gR := by
    rintro rfl
    rcases sS with ⟨h1, h2, _, cs, h3⟩ | ⟨_, h1⟩ <;> rcases sR with ⟨h4, h5, _, cs', h6⟩ | ⟨_, h4⟩
    · rw [h3] at h6; injection h6 with h6; injection h6 with _ h6; exact absurd h6 (by decide)
    · omega
    · omega
    · omega
  have nT1 : gT ≠ w.heap.size ∧ gT ≠ w1.heap.size ∧ gT ≠ w1.heap.size + 1 ∧ gT ≠ w1.heap.size + 1 + 1 := by rcases sT with ⟨h1, h2, _⟩ | ⟨_, h1⟩ <;> omega
  have nTS : gT ≠ gS := by rcases sT with ⟨h1, h2, _⟩ | ⟨_, h1⟩ <;> rcases sS with ⟨h4, h5, _⟩ | ⟨_, h4⟩ <;> omega
  have nTR : gT ≠ gR := by rcases sT with ⟨h1, h2, _⟩ | ⟨_, h1⟩ <;> rcases sR with ⟨h4, h5, _⟩ | ⟨_, h4⟩ <;> omega
  have hlenK : (l0.map S35.f0).length = l0.length := List.length_map _
  have hcel : ∀ i j, i < l0.length → j < 5 → (j = 0 → w3.cell? ⟨gS, i * 5 + j, none⟩ = some (.int .i64 (l0.getD i z35).f0)) ∧ (j = 1 ∨ j = 2 → w3.cell? ⟨gS, i * 5 + j, none⟩ = some (.int .i64 (getF (l0.getD i z35) j))) := by
    intro i j hi hj
    obtain ⟨Ax, cx, he, hl, hC⟩ := Kd.R_reads hV0
    injection he with e1 e2 e3
    subst e1
    rw [hS (by omega)] at hC
    obtain ⟨ad, ead, q0, q1, q2, q3, q4⟩ := at_T35 hC (i : Int) (by omega) (by omega)
    injection ead with ead
    subst ead
    simp only [Int.toNat_natCast, Addr.add_lit, Nat.zero_add] at q0 q1 q2
    have er : rd_T35 l0 (i : Int) = l0.getD i z35 := by simp [rd_T35]
    rw [er] at q0 q1 q2
    refine ⟨fun e => by subst e; exact q0, fun e => ?_⟩
    rcases e with rfl | rfl
    · exact q1
    · exact q2
  have hcelR : ∀ i, i < l1.length → w3.cell? ⟨gR, i * 2 + 1, none⟩ = some (.int .i64 (l1.getD i z37).f1) := by
    intro i hi
    obtain ⟨Ax, cx, he, hl, hC⟩ := Kd.R_reads hV2
    injection he with e1 e2 e3
    subst e1
    rw [hR (by omega)] at hC
    obtain ⟨ad, ead, q0, q1⟩ := at_T37 hC (i : Int) (by omega) (by omega)
    injection ead with ead
    subst ead
    simp only [Int.toNat_natCast, Addr.add_lit, Nat.zero_add] at q1
    have er : rd_T37 l1 (i : Int) = l1.getD i z37 := by simp [rd_T37]
    rw [er] at q1
    exact q1
  have hop : ∀ i, i < (l0.map S35.f0).length → w3.cell? ⟨gS, 0 + i * 5, none⟩ = some (.int .i64 ((l0.map S35.f0).getD i 0)) := by
    intro i hi
    rw [hlenK] at hi
    have h1 := (hcel i 0 hi (by omega)).1 rfl
    rw [Nat.zero_add]
    have : (l0.map S35.f0).getD i 0 = (l0.getD i z35).f0 := by simp [List.getD, hi]
    rw [this]; exact h1
  have hb0 : Below w3.heap.size w3 w3 := Below.refl _ _
  have hI0 : MInv l0 l1 w w3 gS gT (w.heap.size + 1) (.slice At l0.length ct) [] w3 := ⟨Nat.le_refl _, hKb0, fun _ _ _ => rfl, Kd.R_mono hVT (fun k hk => by have := hk.2.2.1; omega)⟩
  have hmx : Try.prog.follows .mixedOrders = true := by kernel_rfl
  refine wpIn_rangeFunc_ownG rfl (by omega) (gf := 59) (lb := #[.pointer (some ⟨w1.heap.size + 1, 0, none⟩), .pointer (some ⟨w1.heap.size + 1 + 1, 0, none⟩)]) rfl trivial (enters_of Try.func59 (by kernel_rfl) rfl)
    (places_stops 7 (by omega) (w1.heap.size + 1) (w1.heap.size + 1 + 1) gS 0 gR 0 (l0.map S35.f0) c0 l1.length c1 A0 A1 w3 (by rw [hlenK]; exact hS) hR (by rw [hlenK]; omega) (by omega) (by omega) (by omega) (by rw [hlenK]; intro h; rcases sS with ⟨_, q1, _⟩ | ⟨q1, _⟩ <;> omega)
      (by rw [hlenK]; exact (blk_cell c1' 0).trans rfl) ((blk_cell c2' 0).trans rfl) hop)
    (fun h k => h.trans k) (fun W l o o' h1 h2 h3 h4 => KpF_put W l o o' h1 h2 h3 h4) hb0 (by intro x; rfl)
    (fun pre W => MInv l0 l1 w w3 gS gT (w.heap.size + 1) (.slice At l0.length ct) (pre.map Subtype.val) W) (fun _ _ _ => False)
    (fun s A B row hs hg hr => hs.move hg (fun r e => (hr r e).1) (by omega))
    (fun _ _ _ _ _ hs _ _ => hs) hI0 (fun x => { tmps := #[.slice A0 l0.length c0, .slice A1 l1.length c1, .pointer (some ⟨w.heap.size, 0, none⟩), undef, .slice none 0 0, .pointer (some ⟨w1.heap.size, 0, none⟩), undef, .pointer (some x.1.2), undef, undef, undef, undef, .slice A0 l0.length c0, .int .i64 l0.length, .slice At l0.length ct, .slice A0 l0.length c0, .slice A1 l1.length c1, .func (.func 59) #[] #[.pointer (some ⟨w1.heap.size + 1, 0, none⟩), .pointer (some ⟨w1.heap.size + 1 + 1, 0, none⟩)], .int .i64 x.1.1, .pointer (some x.1.2), undef, undef, undef, undef, undef, undef, undef, undef, undef, undef, undef, undef, undef, undef, undef, undef, undef, undef, undef, undef, undef, undef, undef, undef, undef, undef, undef, undef, undef, undef, undef, undef, undef, undef, undef, undef, undef, undef, undef, undef, undef, undef, undef, undef, undef, undef, undef, undef, undef, undef, undef, undef, undef, undef, undef, undef, undef, undef, undef, undef, undef, undef, undef], defers := [] }) ?assign ?body ?done ?stop
  case assign =>
    intro l x W K hK
    simp only [encsP]
    gi_wp2
    exact hK
  case stop =>
    rintro D c pre W _ _ h _
    exact h.elim
  case body =>
    rintro l pre ⟨⟨op, p⟩, hmem⟩ W hI hlen'
    have hst := hI.same
    have hsz := hI.size
    have e0 := (hst w.heap.size (by omega) (by omega)).trans b0'
    have e5 := (hst w1.heap.size (by omega) (by omega)).trans b5'
    obtain ⟨c, pb, po, hx2, hcell, hfr, hval, hpl⟩ : ∃ c pb po, p = ⟨pb, po, none⟩ ∧ W.cell? ⟨pb, po, none⟩ = some (.int .i64 c) ∧ W.frozen? ⟨pb, po, none⟩ = false ∧ valOf l0 l1 gS (op, p) = c ∧ gT ≠ pb := by
      rcases List.mem_append.1 hmem with hx | hx
      · obtain ⟨i, j, hi, hj, hxe⟩ := mem_stepPlaces.1 hx
        rw [hlenK] at hi
        have h12 := namedOff_12 hj
        have e1 : (i * 5 + j) / 5 = i := by omega
        have e2 : (i * 5 + j) % 5 = j := by omega
        injection hxe with hx1 hx2
        rw [Nat.zero_add] at hx2
        obtain ⟨cs, hcs⟩ : ∃ cs, w3.heap[gS]? = some (.cells cs 35 (0, 0)) := by rcases sS with ⟨_, _, _, cs, h⟩ | ⟨q, _⟩ <;> first | exact ⟨cs, h⟩ | omega
        have hW := (hst gS (by have := blk_lt hcs; omega) (Ne.symm nTS)).trans hcs
        refine ⟨_, gS, i * 5 + j, hx2, ?_, blk_frozen hW _, rfl, nTS⟩
        rw [hx2]
        show W.cell? _ = some (.int .i64 (valOf l0 l1 gS (op, ⟨gS, i * 5 + j, none⟩)))
        have : valOf l0 l1 gS (op, ⟨gS, i * 5 + j, none⟩) = getF (l0.getD i z35) j := by simp [valOf, e1, e2]
        rw [this, ← (hcel i j hi (by omega)).2 h12, blk_cell hW, blk_cell hcs]
      · obtain ⟨i, hi, hxe⟩ := mem_rowPlaces.1 hx
        have e1 : (i * 2 + 1) / 2 = i := by omega
        injection hxe with hx1 hx2
        rw [Nat.zero_add] at hx2
        obtain ⟨cs, hcs⟩ : ∃ cs, w3.heap[gR]? = some (.cells cs 37 (0, 0)) := by rcases sR with ⟨_, _, _, cs, h⟩ | ⟨q, _⟩ <;> first | exact ⟨cs, h⟩ | omega
        have hW := (hst gR (by have := blk_lt hcs; omega) (Ne.symm nTR)).trans hcs
        refine ⟨_, gR, i * 2 + 1, hx2, ?_, blk_frozen hW _, rfl, nTR⟩
        rw [hx2]
        show W.cell? _ = some (.int .i64 (valOf l0 l1 gS (op, ⟨gR, i * 2 + 1, none⟩)))
        have : valOf l0 l1 gS (op, ⟨gR, i * 2 + 1, none⟩) = (l1.getD i z37).f1 := by simp [valOf, e1, Ne.symm hne]
        rw [this, ← hcelR i hi, blk_cell hW, blk_cell hcs]
    have hstep : ((pre ++ [(⟨(op, p), hmem⟩ : PlaceOf gS 0 (l0.map S35.f0) gR 0 l1.length)]).map Subtype.val).foldl (fun T x => mark l0.length T (valOf l0 l1 gS x)) (List.replicate l0.length false) = mark l0.length ((pre.map Subtype.val).foldl (fun T x => mark l0.length T (valOf l0 l1 gS x)) (List.replicate l0.length false)) c := by
      rw [List.map_append, List.foldl_append]
      simp only [List.map_cons, List.map_nil, List.foldl_cons, List.foldl_nil, hval]
    subst hx2
    obtain ⟨T, hT0⟩ : ∃ T, (pre.map Subtype.val).foldl (fun T x => mark l0.length T (valOf l0 l1 gS x)) (List.replicate l0.length false) = T := ⟨_, rfl⟩
    have hTlen : T.length = l0.length := by rw [← hT0, mfold_len]; simp
    have hrow := hI.row
    rw [hT0] at hrow hstep
    have hfinA : ∀ q, mark l0.length T c = T → KeepsFrom w3.heap.size W (W.drewN q) ∧ KpF (FixI (w1.heap.size + 1) (w1.heap.size + 1 + 1) gS 0 (l0.map S35.f0).length) W (W.drewN q) ∧
        MInv l0 l1 w w3 gS gT (w.heap.size + 1) (.slice At l0.length ct) ((pre ++ [(⟨(op, ⟨pb, po, none⟩), hmem⟩ : PlaceOf gS 0 (l0.map S35.f0) gR 0 l1.length)]).map Subtype.val) (W.drewN q) := by
      intro q hm
      refine ⟨(⟨Nat.le_refl _, fun _ _ h _ => h⟩ : KeepsOthers W (W.drewN q)).from _, KpF_of_cells (fun a ha => World.cell?_drewN _ _ _), ⟨hI.size, pw_below_drewN hI.below q, hI.same, ?_⟩⟩
      rw [hstep, hm]
      exact Kd.R_drewN hrow q
    have hfinB : ∀ q, 0 ≤ c → c < l0.length → KeepsFrom w3.heap.size W ((W.setCell ⟨gT, c.toNat, none⟩ (.bool true)).drewN q) ∧ KpF (FixI (w1.heap.size + 1) (w1.heap.size + 1 + 1) gS 0 (l0.map S35.f0).length) W ((W.setCell ⟨gT, c.toNat, none⟩ (.bool true)).drewN q) ∧
        MInv l0 l1 w w3 gS gT (w.heap.size + 1) (.slice At l0.length ct) ((pre ++ [(⟨(op, ⟨pb, po, none⟩), hmem⟩ : PlaceOf gS 0 (l0.map S35.f0) gR 0 l1.length)]).map Subtype.val) ((W.setCell ⟨gT, c.toNat, none⟩ (.bool true)).drewN q) := by
      intro q g0 g1
      refine ⟨(keeps_set W _ _ q).from _, KpF_of_cells (fun a ha => ?_), ⟨?_, ?_, fun k hk h1 => ?_, ?_⟩⟩
      · rw [World.cell?_drewN]
        refine World.cell?_setCell_other _ _ _ _ ?_
        rcases ha with rfl | rfl | ⟨i, hi, rfl⟩
        · intro e; injection e with e; omega
        · intro e; injection e with e; omega
        · intro e; injection e with e; omega
      · show w3.heap.size ≤ (W.setCell _ _).heap.size
        simp [World.setCell]; exact hI.size
      · exact pw_below_drewN (hI.below.setCell (p := ⟨gT, c.toNat, none⟩) (by show w.heap.size ≤ gT; rcases sT with ⟨q1, q2, _⟩ | ⟨_, q1⟩ <;> omega) _) q
      · show (W.setCell _ _).heap[k]? = _
        rw [Below.heap_setCell _ _ _ _ h1]; exact hI.same k hk h1
      · rw [hstep]
        have hm : mark l0.length T c = T.set c.toNat true := by unfold mark; rw [if_pos ⟨g0, g1⟩]
        rw [hm]
        rw [hT (by omega)] at hrow ⊢
        exact Kd.R_drewN (Kd.R_putn hrow c true) q
    have hTc : 0 ≤ c → c < l0.length → W.cell? ⟨gT, c.toNat, none⟩ = some (.bool (rdOf false T c)) ∧ W.frozen? ⟨gT, c.toNat, none⟩ = false := by
      intro g0 g1
      obtain ⟨g, cells, hA, _, _, hok, hh, _, _⟩ := R_shape hrow (by omega) (by show 0 < 1; omega)
      rw [hT (by omega)] at hA
      injection hA with hA
      injection hA with hA
      subst hA
      obtain ⟨hn, hcm, hC⟩ := Kd.R_reads' hrow
      rw [hT (by omega)] at hC
      obtain ⟨ad, eA, qb⟩ := Kd.at_bool hC c (by omega) (by omega)
      injection eA with eA
      subst eA
      rw [Addr.add_lit, Nat.zero_add] at qb
      exact ⟨qb, blk_frozen hh _⟩
    have FINA := Lib.hid hfinA
    have FINB := Lib.hid hfinB
    have HTC := Lib.hid hTc
    have k0 := blk_cell e0 0
    have k5 := blk_cell e5 0
    simp only [List.getElem?_toArray, List.getElem?_cons_zero] at k0 k5
    clear hfinA hfinB hTc hrow hstep hI hst e0 e5 hV0 hV2 hVT hI0 hop hb0 c1' c2' b0' b5' h1at hcel hcelR hlen' hcl hcl0 hC0 hC1 kx
    dsimp only
    by_cases g0 : 0 ≤ c
    · have t0 : decide (0 ≤ c) = true := decide_eq_true g0
      by_cases g1 : c < (l0.length : Int)
      · have t1 : decide (c < (l0.length : Int)) = true := decide_eq_true g1
        obtain ⟨kT, fT⟩ := HTC.out g0 g1
        have hAt := hT (by omega)
        subst hAt
        gi_wp2
        refine wpIn_region_quiet_round hmx (by kernel_rfl) (by kernel_rfl) ?_
        repeat (gi_big_quiet_step (fail))
        refine wpQuietIn_nil ?_
        intro _ hw'
        obtain ⟨nq, hw''⟩ := hw'
        subst hw''
        gi_wp2
        gi_region_with_o (fail)
        all_goals gi_wp2
        all_goals exact FINB.out (nq + 1) g0 g1
      · have t1 : decide (c < (l0.length : Int)) = false := decide_eq_false g1
        have G1 := Lib.hid g1
        clear g1
        gi_wp2
        refine wpIn_region_quiet_round hmx (by kernel_rfl) (by kernel_rfl) ?_
        repeat (gi_big_quiet_step (fail))
        refine wpQuietIn_nil ?_
        intro _ hw'
        obtain ⟨nq, hw''⟩ := hw'
        subst hw''
        gi_wp2
        exact FINA.out _ (by unfold mark; rw [if_neg (by have := G1.out; omega)])
    · have t0 : decide (0 ≤ c) = false := decide_eq_false g0
      have G0 := Lib.hid g0
      clear g0
      gi_wp2
      refine wpIn_region_quiet_round hmx (by kernel_rfl) (by kernel_rfl) ?_
      repeat (gi_big_quiet_step (fail))
      refine wpQuietIn_nil ?_
      intro _ hw'
      obtain ⟨nq, hw''⟩ := hw'
      subst hw''
      gi_wp2
      exact FINA.out _ (by unfold mark; rw [if_neg (by have := G0.out; omega)])
  case done =>
    rintro D xs W hD hxs hI hK
    have hst := hI.same
    have hsz := hI.size
    have hrow := hI.row
    rw [hxs, targets_fold hne] at hrow
    have e0 := (hst w.heap.size (by omega) (by omega)).trans b0'
    have e5 := (hst w1.heap.size (by omega) (by omega)).trans b5'
    have hS0 : Kd.R k35 35 W bV (fun k => okS k ∧ k < w.heap.size) (.slice A0 l0.length c0) l0 := Kd.R_mono (Kd.R_move (Kd.R_bound HR0.out) (fun k hk => (hI.below.block k hk.2.2.1))) (fun k hk => ⟨hk.1, hk.2.2.1⟩)
    have hR0 : Kd.R k37 37 W bV okR (.slice A1 l1.length c1) l1 := Kd.R_mono (Kd.R_move (Kd.R_bound HR1.out) (fun k hk => (hI.below.block k hk.2.2.1))) (fun k hk => hk.1)
    have htl := targets_len l0 l1
    have HT := Lib.hid hrow
    have E0 := Lib.hid e0
    have E5 := Lib.hid e5
    have HS := Lib.hid hS0
    have HRR := Lib.hid hR0
    have HBW := Lib.hid hI.below
    have HK := Lib.hid hK
    have k0 := blk_cell e0 0
    have k5 := blk_cell e5 0
    simp only [List.getElem?_toArray, List.getElem?_cons_zero] at k0 k5
    have zW : w.heap.size < W.heap.size := by omega
    have zW5 : w1.heap.size < W.heap.size := by omega
    clear hxs hI hK hst hrow e0 e5 hS0 hR0 hV0 hV2 hVT hI0 hop hb0 c1' c2' b0' b5' h1at hcel hcelR hcl hcl0 hC0 hC1 kx
    go_wp2_with (first | ((with_reducible refine gate_dst (N := 39) rfl ?_); go_loud (refine Kd.R_make Kd.bool _ 4 rfl (N := 39) rfl 55 _ _ rfl (l0.length : Int) rfl rfl Try.underlying55 (.bool false) 1 info4 rfl (by decide) (by omega) false (ok := fun _ => True) (okp := fun _ => True) rfl (fun _ hk => hk) trivial (by omega) (by simp; omega) (Below.refl _ _) (Nat.le_refl _) ?_); go_loud (intro v2 w2 ho2 hb2 hg2 hnew2; obtain ⟨Ao, co, ev2⟩ := Kd.R_slice ho2; rw [List.length_replicate, Int.toNat_natCast] at ev2; subst ev2; rw [Int.toNat_natCast] at ho2; have HO2 := Lib.hid ho2; have HB2 := Lib.hid hb2; have hz2 := hb2.size; clear ho2 hb2 hg2 hnew2)))
    go_loopw [9] (fun s9 wl => ∃ (i f : Nat) (s : List S35) (o : List Bool), i ≤ l0.length ∧ l0.length ≤ i + f ∧ s9 = .int .i64 i ∧ s.length = l0.length ∧ o.length = l0.length ∧ Hid (fuseGo (targets l0 l1) f s o i = fuseEnd l0 l1) ∧ Hid (∀ x ∈ s, wfS x) ∧ Hid (Below bV W wl) ∧ Hid (∀ k, k < W.heap.size → (0 < l0.length → k ≠ gS) → wl.heap[k]? = W.heap[k]?) ∧ Hid (Kd.R k35 35 wl bV (fun k => okS k ∧ k < w.heap.size) (.slice A0 l0.length c0) s) ∧ Hid (Kd.R Kd.bool 4 wl W.heap.size (fun _ => True) (.slice Ao l0.length co) o)) (fun s9 _ => l0.length - (intOf s9).toNat)
    case atStart => exact ⟨0, l0.length, l0, _, Nat.zero_le _, by omega, rfl, rfl, by simp, rfl, HW0, HB2.out.mono (by omega), (fun k h1 _ => HB2.out.block k h1), Kd.R_below HS.out HB2.out, HO2⟩
    case round =>
      obtain ⟨i, f, s, o, hi, hif, rfl, hsl, hol, HG, HWs, HBl, HSM, HSr, HOr⟩ := hrel
      have hszl := HBl.out.size
      have ge0 : wr.heap[w.heap.size]? = some (.cells #[.slice A0 l0.length c0] 27 (0, 0)) := (HSM.out _ zW (fun h => by rcases sS with ⟨q1, q2, _⟩ | ⟨q1, _⟩ <;> omega)).trans E0.out
      have ge5 : wr.heap[w1.heap.size]? = some (.cells #[.slice At l0.length ct] 55 (0, 0)) := (HSM.out _ zW5 (fun h => by rcases sS with ⟨q1, q2, _⟩ | ⟨q1, _⟩ <;> omega)).trans E5.out
      have kr0 := blk_cell ge0 0
      have kr5 := blk_cell ge5 0
      simp only [List.getElem?_toArray, List.getElem?_cons_zero] at kr0 kr5
      have GE0 := Lib.hid ge0
      have GE5 := Lib.hid ge5
      clear ge0 ge5
      by_cases hlt : i + 1 < l0.length
      · have hltz : (i : Int) + 1 < (l0.length : Int) := by omega
        have hT' := hT (by omega)
        have hS' := hS (by omega)
        obtain ⟨hnn, hcs, hC⟩ := Kd.R_reads' HSr.out
        subst hT' hS'
        obtain ⟨ad, eA, q0, q1, q2, q3, q4⟩ := at_T35 hC (i : Int) (by omega) (by omega)
        injection eA with eA
        subst eA
        obtain ⟨ad, eA, p0, p1, p2, p3, p4⟩ := at_T35 hC ((i + 1 : Nat) : Int) (by omega) (by omega)
        injection eA with eA
        subst eA
        simp only [Int.toNat_natCast, Addr.add_lit, Nat.zero_add] at q0 q1 q2 q3 q4 p0 p1 p2 p3 p4
        have er : rd_T35 s (i : Int) = s.getD i z35 := by simp [rd_T35]
        have er' : rd_T35 s ((i + 1 : Nat) : Int) = s.getD (i + 1) z35 := by simp [rd_T35]
        rw [er] at q0 q1 q2 q3 q4
        rw [er'] at p0 p1 p2 p3 p4
        clear hC er er' hnn hcs
        obtain ⟨x, hx⟩ : ∃ x, s.getD i z35 = x := ⟨_, rfl⟩
        obtain ⟨y, hy⟩ : ∃ y, s.getD (i + 1) z35 = y := ⟨_, rfl⟩
        rw [hx] at q0 q1 q2 q3 q4
        rw [hy] at p0 p1 p2 p3 p4
        obtain ⟨z, b, hfz, hzb⟩ : ∃ (z : S35) (b : Bool), opt_fused.f 3 x.f0 x.f1 x.f2 x.f3 x.f4 y.f0 y.f1 y.f2 y.f3 y.f4 = some (z.f0, z.f1, z.f2, z.f3, z.f4, b) ∧ ((b = true ∧ fz x y = some z) ∨ (b = false ∧ fz x y = none)) := by
          cases hz : fz x y with
          | some z => exact ⟨z, true, fused_some hz, .inl ⟨rfl, rfl⟩⟩
          | none => exact ⟨z35, false, fused_none hz, .inr ⟨rfl, rfl⟩⟩
        have HFZ := Lib.hid hfz
        have HZB := Lib.hid hzb
        have HX := Lib.hid hx
        have HY := Lib.hid hy
        clear hfz hzb hx hy
        go_wp2_with fail
        go_cut [10, 11] from 47 to 59 (fun v10 v11 wc => ∃ gx, v10 = .pointer (some ⟨gx, 0, none⟩) ∧ v11 = .bool b ∧ Hid (Below wr.heap.size wr wc) ∧ Hid (wr.heap.size ≤ gx) ∧ Hid (wc.heap[gx]? = some (.cells #[.int .i64 z.f0, .int .i64 z.f1, .int .i64 z.f2, .int .i64 z.f3, .int .i64 z.f4] 35 (0, 0))))
        case first =>
          have n0 := blk_lt GE0.out
          have hi0 : (0 : Int) ≤ (i : Int) := by omega
          have hi1 : (i : Int) < (l0.length : Int) := by omega
          have hi2 : (0 : Int) ≤ (i : Int) + 1 := by omega
          have hti : ((i : Int) + 1).toNat = i + 1 := by omega
          have hw1 : IntKind.i64.wrap ((i : Int) + 1) = (i : Int) + 1 := by rw [i64_w]; unfold wrap64; omega
          have n1 : gS < wr.heap.size := World.block_lt_of_cell? _ _ q0
          go_region_held3 (fun w' => w'.cell? ⟨w.heap.size, 0, none⟩ = some (.slice (some ⟨gS, 0, none⟩) l0.length c0) ∧ w'.cell? ⟨gS, i * 5, none⟩ = some (.int .i64 x.f0) ∧ w'.cell? ⟨gS, i * 5 + 1, none⟩ = some (.int .i64 x.f1) ∧ w'.cell? ⟨gS, i * 5 + 2, none⟩ = some (.int .i64 x.f2) ∧ w'.cell? ⟨gS, i * 5 + 3, none⟩ = some (.int .i64 x.f3) ∧ w'.cell? ⟨gS, i * 5 + 4, none⟩ = some (.int .i64 x.f4) ∧ w'.cell? ⟨gS, (i + 1) * 5, none⟩ = some (.int .i64 y.f0) ∧ w'.cell? ⟨gS, (i + 1) * 5 + 1, none⟩ = some (.int .i64 y.f1) ∧ w'.cell? ⟨gS, (i + 1) * 5 + 2, none⟩ = some (.int .i64 y.f2) ∧ w'.cell? ⟨gS, (i + 1) * 5 + 3, none⟩ = some (.int .i64 y.f3) ∧ w'.cell? ⟨gS, (i + 1) * 5 + 4, none⟩ = some (.int .i64 y.f4))
            ((repeat' apply And.intro) <;> (first | (with_reducible assumption) | exact bkeep (W := wr) (by (with_reducible repeat (first | refine below_set ?_ (Nat.le_refl _) | refine below_alloc ?_ _ | refine below_drew ?_ | refine bthen ?_ hbz)); (with_reducible exact Below.refl _ _)) (by assumption)))
            ((go_at_call 57; refine (opt_fused.calls 3 _ _ _ _ _ _ _ _ _ _ z.f0 z.f1 z.f2 z.f3 z.f4 b _ HFZ.out).mono ?_; rintro e wz ⟨rfl, hbz⟩; try (have hN : wz.heap[wr.heap.size]? = some (.cells #[.int .i64 0, .int .i64 0, .int .i64 0, .int .i64 0, .int .i64 0] 35 (0, 0)) := blk_below (by with_reducible first | exact blk_new wr _ | exact blk_drew (blk_new wr _)) hbz; have m0 := blk_cell hN 0; have m1 := blk_cell hN 1; have m2 := blk_cell hN 2; have m3 := blk_cell hN 3; have m4 := blk_cell hN 4; simp only [List.getElem?_toArray, List.getElem?_cons_zero, List.getElem?_cons_succ] at m0 m1 m2 m3 m4; have z0 := blk_frozen hN 0; have z1 := blk_frozen hN 1; have z2 := blk_frozen hN 2; have z3 := blk_frozen hN 3; have z4 := blk_frozen hN 4)))
          · have hbB : Below wr.heap.size wr (wz.alloc (.cells #[.int .i64 z.f0, .int .i64 z.f1, .int .i64 z.f2, .int .i64 z.f3, .int .i64 z.f4] 35)) := (by (with_reducible repeat (first | refine below_set ?_ (Nat.le_refl _) | refine below_alloc ?_ _ | refine below_drew ?_ | refine bthen ?_ hbz)); (with_reducible exact Below.refl _ _))
            have hbC := Lib.hid hbB
            have hbD := Lib.hid (blk_new wz (.cells #[.int .i64 z.f0, .int .i64 z.f1, .int .i64 z.f2, .int .i64 z.f3, .int .i64 z.f4] 35 (0, 0)))
            have hbE : wr.heap.size ≤ wz.heap.size := hbz.size
            go_wp2_with fail
            go_meet
            case rel => exact ⟨_, rfl, rfl, hbC, Lib.hid hbE, hbD⟩
          · have hbB : Below wr.heap.size wr (((((wz.setCell ⟨wr.heap.size, 0, none⟩ (.int .i64 z.f0)).setCell ⟨wr.heap.size, 1, none⟩ (.int .i64 z.f1)).setCell ⟨wr.heap.size, 2, none⟩ (.int .i64 z.f2)).setCell ⟨wr.heap.size, 3, none⟩ (.int .i64 z.f3)).setCell ⟨wr.heap.size, 4, none⟩ (.int .i64 z.f4)) := (by (with_reducible repeat (first | refine below_set ?_ (Nat.le_refl _) | refine below_alloc ?_ _ | refine below_drew ?_ | refine bthen ?_ hbz)); (with_reducible exact Below.refl _ _))
            have hbC := Lib.hid hbB
            have hbD := Lib.hid (blk_set (blk_set (blk_set (blk_set (blk_set hN 0 (.int .i64 z.f0)) 1 (.int .i64 z.f1)) 2 (.int .i64 z.f2)) 3 (.int .i64 z.f3)) 4 (.int .i64 z.f4))
            go_wp2_with fail
            go_meet
            case rel => exact ⟨_, rfl, rfl, hbC, Lib.hid (Nat.le_refl _), hbD⟩
        case rest =>
          obtain ⟨gx, rfl, rfl, HBc, HGx, HXc⟩ := hcut
          have hi1 : (i : Int) < (l0.length : Int) := by omega
          have hgS : gS < w.heap.size := by rcases sS with ⟨q1, q2, _⟩ | ⟨q1, _⟩ <;> omega
          have hbl1 : bV ≤ wr.heap.size := by omega
          have HSc := Lib.hid (Kd.R_below HSr.out HBc.out)
          have HOc := Lib.hid (Kd.R_below HOr.out HBc.out)
          have hTr := Kd.R_move (Kd.R_bound HT.out) (w1 := wr) (fun k hk => HSM.out k (by have := hk.1; omega) (fun _ => by have := hk.2.1; omega))
          have HTc := Lib.hid (Kd.R_below hTr HBc.out)
          have HBWc := Lib.hid (HBl.out.trans (HBc.out.mono hbl1))
          have kc0 := blk_cell (blk_below GE0.out HBc.out) 0
          have kc5 := blk_cell (blk_below GE5.out HBc.out) 0
          have x0 := blk_cell HXc.out 0
          have x1 := blk_cell HXc.out 1
          have x2 := blk_cell HXc.out 2
          have x3 := blk_cell HXc.out 3
          have x4 := blk_cell HXc.out 4
          simp only [List.getElem?_toArray, List.getElem?_cons_zero, List.getElem?_cons_succ] at kc0 kc5 x0 x1 x2 x3 x4
          have hzc := HBc.out.size
          obtain ⟨f', rfl⟩ : ∃ f', f = f' + 1 := ⟨f - 1, by omega⟩
          clear hTr q0 q1 q2 q3 q4 p0 p1 p2 p3 p4 kr0 kr5
          rcases HZB.out with ⟨rfl, hz⟩ | ⟨rfl, hz⟩
          · obtain ⟨hnT, hcT, hCT⟩ := Kd.R_reads' HTc.out
            obtain ⟨ad, eA, tb⟩ := Kd.at_bool hCT ((i + 1 : Nat) : Int) (by omega) (by omega)
            injection eA with eA
            subst eA
            simp only [Int.toNat_natCast, Addr.add_lit, Nat.zero_add] at tb
            have ht0 : rdOf false (targets l0 l1) ((i + 1 : Nat) : Int) = (targets l0 l1).getD (i + 1) false := by simp [rdOf]
            rw [ht0] at tb
            have HZ := Lib.hid hz
            clear hCT hz ht0 hnT hcT htl
            cases htt : (targets l0 l1).getD (i + 1) false with
            | true =>
              rw [htt] at tb
              have hgo := fuseGo_named (T := targets l0 l1) (f := f') (s := s) (o := o) (i := i) (by omega) (by rw [HX.out, HY.out]; exact HZ.out) htt
              have HGO := Lib.hid (hgo.symm.trans HG.out)
              clear hgo htt
              go_wp2_with fail
              refine ⟨⟨i + 1, f', s, o, by omega, by omega, by go_num, hsl, hol, HGO.out, HWs.out, HBWc.out, (fun k h1 h2 => (HBc.out.block k (by omega)).trans (HSM.out k h1 h2)), HSc.out, HOc.out⟩, by simp [intOf]; omega⟩
            | false =>
              rw [htt] at tb
              have hgo := fuseGo_some (T := targets l0 l1) (f := f') (s := s) (o := o) (i := i) (by omega) (by rw [HX.out, HY.out]; exact HZ.out) htt
              have HGO := Lib.hid (hgo.symm.trans HG.out)
              have hwz : wfS z := fz_wf (wfS_getD HWs.out i) (wfS_getD HWs.out (i + 1)) (by rw [HX.out, HY.out]; exact HZ.out)
              have HWZ := Lib.hid (set_wf HWs.out i hwz)
              obtain ⟨gO, cellsO, hAO, hbO, hlO, _, hhO, hq1, hq2⟩ := R_shape HOc.out (by omega) (by show 0 < 1; omega)
              clear hq1 hq2
              subst hAO
              obtain ⟨ce, hce1, _, hce2, hce3⟩ := Kd.R_elem HSc.out z35 (i : Int) (by omega) (by omega)
              obtain ⟨co', ho1, _, ho2, _⟩ := Kd.R_elem HOc.out false ((i + 1 : Nat) : Int) (by omega) (by omega)
              have HCE := Lib.hid hce2
              have HCO := Lib.hid ho2
              have hdrop : ce.take 0 ++ [Value.int .i64 z.f0, .int .i64 z.f1, .int .i64 z.f2, .int .i64 z.f3, .int .i64 z.f4] ++ ce.drop (0 + 5) = [.int .i64 z.f0, .int .i64 z.f1, .int .i64 z.f2, .int .i64 z.f3, .int .i64 z.f4] := by
                rw [List.drop_eq_nil_of_le (by rw [hce1]; show 5 ≤ 0 + 5; omega)]; simp
              have hdropO : co'.take 0 ++ [Value.bool true] ++ co'.drop (0 + 1) = [Value.bool true] := by
                rw [List.drop_eq_nil_of_le (by rw [ho1]; show 1 ≤ 0 + 1; omega)]; simp
              have HDR := Lib.hid hdrop
              have HDO := Lib.hid hdropO
              have hHO := Lib.hid hhO
              have HOL := Lib.hid ho1
              have HCL := Lib.hid hce1
              clear hgo htt hce1 hce2 hce3 ho1 ho2 hdrop hdropO hhO hwz
              go_wp2_with (first | ((with_reducible refine gate_store (t := 35) (p := 75) rfl ?_); go_loud (refine Kd.R_store k35 (w0 := W) bV rfl rfl 35 (.tmp 75) (.tmp 74) rfl 35 (i : Int) 0 s z (.agg #[.int .i64 z.f0, .int .i64 z.f1, .int .i64 z.f2, .int .i64 z.f3, .int .i64 z.f4]) [.int .i64 z.f0, .int .i64 z.f1, .int .i64 z.f2, .int .i64 z.f3, .int .i64 z.f4] ce _ (fun _ => False) rfl (by show i * 5 = (i : Int).toNat * 5 + 0; simp) rfl rfl (by kernel_rfl) (ones5 z) HSc.out (by omega) (by omega) HCL.out HCE.out (by show 0 + 5 ≤ 5; omega) (by rw [show ([Value.int .i64 z.f0, .int .i64 z.f1, .int .i64 z.f2, .int .i64 z.f3, .int .i64 z.f4] : List Value).length = 5 from rfl, HDR.out]; exact k35_mkM _ _ _ z) (fun _ hk => hk.elim) HBWc.out ?_); go_loud (intro w4 hs4 hb4 hg4; have HS4 := Lib.hid hs4; have HB4 := Lib.hid hb4; have hz4 := hg4.size; have HG4 := Lib.hid hg4; clear hs4 hb4 hg4)) | ((with_reducible refine gate_store (t := 4) (p := 76) rfl ?_); go_loud (refine Kd.R_store Kd.bool (w0 := w4) W.heap.size rfl rfl 4 (.tmp 76) (.const (.bool true)) rfl 4 ((i + 1 : Nat) : Int) 0 o true (.bool true) [.bool true] co' (fun _ => True) (fun _ => False) rfl (by show i + 1 = ((i + 1 : Nat) : Int).toNat * 1 + 0; simp) rfl rfl (by kernel_rfl) ones1 (Kd.R_mono (Kd.R_move (Kd.R_bound HOc.out) (fun k hk => HG4.out.block k hk.2.2.1 (by intro e; injection e with e; have := hk.2.1; omega))) (fun _ _ => trivial)) (by omega) (by omega) HOL.out (fun j u hj => by rw [World.cell?_of_block (HG4.out.block gO hlO (by intro e; injection e with e; omega))]; exact HCO.out j u hj) (by show 0 + 1 ≤ 1; omega) (by rw [show ([Value.bool true] : List Value).length = 1 from rfl, HDO.out]; rfl) (fun _ hk => hk.elim) (Below.refl _ _) ?_); go_loud (intro w5 hs5 hb5 hg5; have HO5 := Lib.hid hs5; have HB5 := Lib.hid hb5; clear hs5 hb5 hg5)))
              have hs4' := HS4.out
              have ho5' := HO5.out
              simp only [Int.toNat_natCast] at hs4' ho5'
              refine ⟨⟨i + 2, f', s.set i z, o.set (i + 1) true, by omega, by omega, by go_num, by simp; exact hsl, by simp; exact hol, HGO.out, HWZ.out, HB4.out.trans (HB5.out.mono (by omega)), (fun k h1 h2 => ?_), ?_, ho5'⟩, by simp [intOf]; omega⟩
              · rw [HB5.out.block k h1, HG4.out.block k (by omega) (by intro e; injection e with e; exact h2 (by omega) e), HBc.out.block k (by omega)]
                exact HSM.out k h1 h2
              · exact Kd.R_move hs4' (fun k hk => HB5.out.block k (by have := hk.2; omega))
          · have hgo := fuseGo_none (T := targets l0 l1) (f := f') (s := s) (o := o) (i := i) (by omega) (by rw [HX.out, HY.out]; exact hz)
            have HGO := Lib.hid (hgo.symm.trans HG.out)
            clear hgo hz
            go_wp2_with fail
            refine ⟨⟨i + 1, f', s, o, by omega, by omega, by go_num, hsl, hol, HGO.out, HWs.out, HBWc.out, (fun k h1 h2 => (HBc.out.block k (by omega)).trans (HSM.out k h1 h2)), HSc.out, HOc.out⟩, by simp [intOf]; omega⟩
      · go_wp2_with fail
        have hend := HG.out
        rw [fuseGo_end (by omega)] at hend
        have hRW : Kd.R k37 37 wr bV (fun k => okR k ∧ k < w.heap.size) (.slice A1 l1.length c1) l1 := by
          refine Kd.R_mono (Kd.R_move (Kd.R_bound HR1.out) (w1 := wr) (fun k hk => ?_)) (fun k hk => ⟨hk.1, hk.2.2.1⟩)
          rw [HSM.out k (by have := hk.2.2.1; omega) (fun hn e => ?_), HBW.out.block k hk.2.2.1]
          subst e
          obtain ⟨q, hq, cells, hc⟩ := hk.2.2.2
          rcases sS with ⟨_, _, _, cs, hcs⟩ | ⟨q1, _⟩
          · rw [hKb0.block k hk.2.2.1, hc] at hcs
            injection hcs with hcs
            injection hcs with _ hcs
            subst hcs
            exact absurd hq (by decide)
          · omega
        obtain ⟨hnO, hcO, hCO⟩ := Kd.R_reads' HOr.out
        obtain ⟨hnS, hcS, hCS⟩ := Kd.R_reads' HSr.out
        have hcall := without_calls A0 c0 s A1 c1 l1 Ao co o wr bV (fun k => okR k ∧ k < w.heap.size) hCS (by omega) hRW hCO (by omega) (by omega) (by omega) hs1 (by omega) HWs.out HW1.out
        rw [hsl, hol] at hcall
        refine hcall.mono ?_
        rintro e w5 ⟨v5, rfl, h1, h2, h3, h4⟩
        have H1 := Lib.hid h1
        have H2 := Lib.hid h2
        have H3 := Lib.hid h3
        have H4 := Lib.hid h4
        have HEND := Lib.hid hend
        have HRW := Lib.hid hRW
        clear h1 h2 h3 h4 hcall hend hCO hCS hnO hnS hcO hcS hRW
        dsimp only
        go_wp2_with fail
        have hDw : D < W.heap.size := (Array.getElem?_eq_some_iff.1 HK.out).1
        have hKr : wr.heap[D]? = some (.deferred (some [])) := (HSM.out D hDw (fun hn e => by rcases sS with ⟨_, q2, _⟩ | ⟨q1, _⟩ <;> omega)).trans HK.out
        have hnD : some D ≠ (Value.slice A1 l1.length c1).ownBlock := fun e => by
          have := (HRW.out.1 D e.symm).2
          omega
        have hK5 : w5.heap[D]? = some (.deferred (some [])) := (H4.out D (by omega) hnD).trans hKr
        refine ⟨by simp, .inl ⟨_, _, rfl, run_takeDeferred hK5, ?_⟩⟩
        refine ⟨_, results_tmp rfl _ _ _, ?_⟩
        have hb5 := H3.out.size
        refine ⟨v5, rfl, ?_, ?_, ?_, ?_⟩
        · have e1 : (fuseP l0 l1).1 = (keptAt s o l0.length).map (placed (toNow o l0.length)) := by unfold fuseP; rw [← HEND.out]
          rw [e1]
          exact Kd.R_lower (Kd.R_mono (Kd.R_move (Kd.R_bound H1.out) (fun k hk => (grownBy_putObj' w5 D _).block k hk.2.2.1 (by intro e; injection e with e; have := hk.2.1; omega))) (fun _ _ => trivial)) (by omega)
        · have e1 : (fuseP l0 l1).2 = l1.map (placedR (toNow o l0.length)) := by unfold fuseP; rw [← HEND.out]
          rw [e1]
          exact Kd.R_mono (Kd.R_move H2.out (fun k hk => (grownBy_putObj' w5 D _).block k (by have := hk.2; omega) (by intro e; injection e with e; have := hk.2; omega))) (fun k hk => hk.1)
        · have h1 : Below bV w W := HBW.out.mono hbV
          have h2 : Below bV w w5 := (h1.trans HBl.out).trans H3.out
          exact h2.grown (grownBy_putObj' w5 D _) (by have := h2.size; omega) (fun k e => by injection e with e; omega)
        · intro k g1 g2 g3
          rw [(grownBy_putObj' w5 D _).block k (by omega) (by intro e; injection e with e; omega), H4.out k (by omega) g3, HSM.out k (by omega) (fun hn e => by
            rw [hS hn] at g2
            subst e
            exact g2 rfl), HBW.out.block k g1]
end Go.Proofs.Ytedghbjmhcgilaa.A
end
section
namespace Go.Proofs.Ytedghbjmhcgilaa.A
open Go.RowKit Go.Shelf Go.Maps Go.Proofs.YtedghbjmhcgilaaW.PrintWords Go.Proofs.YtedghbjmhcgilaaW.PrintLast Go.Proofs.YtedghbjmhcgilaaW.PrintMore
open Go.Proofs.Ytedghbjmhcgilaa.POpt
attribute [local go_sem] Oper.semAt_some
set_option linter.unusedVariables false
set_option linter.unusedSimpArgs false
theorem typed_ne {W : World} {k : Nat} (h : ∃ q, q ∈ 35 :: k35.E ∧ ∃ cells, W.heap[k]? = some (.cells cells q (0, 0))) (h' : ∃ q, q ∈ 37 :: k37.E ∧ ∃ cells, W.heap[k]? = some (.cells cells q (0, 0))) : False := by
  obtain ⟨q, hq, cs, hc⟩ := h
  obtain ⟨q', hq', cs', hc'⟩ := h'
  rw [hc] at hc'
  injection hc' with hc'
  injection hc' with _ hc'
  subst hc'
  have e0 : k35.E = [] := rfl
  have e1 : q = 35 := by simpa [e0] using hq
  subst e1
  exact absurd hq' (by decide)
theorem own_ne_of_types {W : World} {ba bb : Nat} {oka okb : Nat → Prop} {va vb : Value} {xs : List S35} {ys : List S37} (ha : k35.R 35 W ba oka va xs) (hb : k37.R 37 W bb okb vb ys) : ∀ k, va.ownBlock = some k → vb.ownBlock ≠ some k := by
  intro k h1 h2
  obtain ⟨_, _, _, q, hq, cs, hc⟩ := (Kd.R_bound ha).1 k h1
  obtain ⟨_, _, _, q', hq', cs', hc'⟩ := (Kd.R_bound hb).1 k h2
  rw [hc] at hc'
  injection hc' with hc'
  injection hc' with _ hc'
  subst hc'
  have e0 : k35.E = [] := rfl
  have e1 : q = 35 := by simpa [e0] using hq
  subst e1
  exact absurd hq' (by decide)
set_option maxRecDepth 100000 in
set_option maxHeartbeats 2000000 in
theorem Fuse_calls (A0 : Option Addr) (c0 : Nat) (l0 : List S35) (A1 : Option Addr) (c1 : Nat) (l1 : List S35) (A2 : Option Addr) (c2 : Nat) (l2 : List S37) (w : World)
    (hr0 : Kd.C k35 w A0 l0.length l0) (hc0 : l0.length ≤ c0) (hr1 : Kd.C k35 w A1 l1.length l1) (hc1 : l1.length ≤ c1) (hr2 : Kd.C k37 w A2 l2.length l2) (hc2 : l2.length ≤ c2)
    (hf : fitB l0 l1 l2 = true) (hw0 : ∀ x ∈ l0, wfS x) (hw1 : ∀ x ∈ l1, wfS x) (hw2 : ∀ x ∈ l2, wfI x.f1) :
    Calls Try.prog 13 #[.agg #[.slice A0 l0.length c0, .slice A1 l1.length c1, .slice A2 l2.length c2]] w fun e w' => ∃ v0_ v1_ v2_ : Value, e = .returned (.agg #[v0_, v1_, v2_]) ∧ Kd.R k35 35 w' w.heap.size (fun k_ => some k_ ≠ (v1_ : Value).ownBlock) v0_ (fuseP l0 l2).1 ∧ Kd.R k35 35 w' w.heap.size (fun k_ => some k_ ≠ (v0_ : Value).ownBlock) v1_ (fuseP l1 []).1 ∧ Kd.R k37 37 w' w.heap.size (fun _ => True) v2_ (fuseP l0 l2).2 ∧ Below w.heap.size w w' := by
  obtain ⟨f0, f1, f2⟩ := fitB_iff.1 hf
  have hcp := copied_some f0 f1 f2
  go_enter Try.func13, Try.ntmps13
  have HR0 := Lib.hid hr0
  have HR1 := Lib.hid hr1
  have HR2 := Lib.hid hr2
  have HW0 := Lib.hid hw0
  have HW1 := Lib.hid hw1
  have HW2 := Lib.hid hw2
  have HCP := Lib.hid hcp
  clear hr0 hr1 hr2 hw0 hw1 hw2 hcp
  go_wp2_with fail
  have hbA : Below w.heap.size w ((w.alloc (.cells #[.slice A0 l0.length c0, .slice A1 l1.length c1, .slice A2 l2.length c2] 30)).alloc (.cells #[.slice none 0 0, .slice none 0 0, .slice none 0 0] 30)) := ((Below.refl _ _).alloc (Nat.le_refl _) _).alloc (by simp) _
  refine (opt_copied.calls A0 c0 l0 A1 c1 l1 A2 c2 l2 l0 l1 l2 _ (Kd.C_below HR0.out hbA) hc0 (Kd.C_below HR1.out hbA) hc1 (Kd.C_below HR2.out hbA) hc2 HCP.out).mono ?_
  rintro e w1 ⟨v0, v1, v2, rfl, hV0, hV1, hV2, hB1⟩
  have b1 : w1.heap[w.heap.size]? = some (.cells #[.slice A0 l0.length c0, .slice A1 l1.length c1, .slice A2 l2.length c2] 30 (0, 0)) := blk_below (blk_alloc (blk_new _ _) _) hB1
  have b2 : w1.heap[w.heap.size + 1]? = some (.cells #[.slice none 0 0, .slice none 0 0, .slice none 0 0] 30 (0, 0)) := blk_below (by have := blk_new (w.alloc (.cells #[.slice A0 l0.length c0, .slice A1 l1.length c1, .slice A2 l2.length c2] 30)) (.cells #[.slice none 0 0, .slice none 0 0, .slice none 0 0] 30); simpa using this) hB1
  have hBw : Below w.heap.size w w1 := hbA.trans (hB1.mono (by simp; omega))
  have n02 := own_ne_of_types hV0 hV2
  have n12 := own_ne_of_types hV1 hV2
  have hV0' := Kd.R_bound hV0
  have hV1' := Kd.R_bound hV1
  have hV2' := Kd.R_bound hV2
  simp only [World.size_alloc] at hV0' hV1' hV2'
  have z1 := hB1.size
  simp only [World.size_alloc] at z1
  have z1a : w.heap.size < w1.heap.size := by omega
  have z1b : w.heap.size + 1 < w1.heap.size := by omega
  obtain ⟨a0, d0, e0⟩ := Kd.R_slice hV0'
  obtain ⟨a1, d1, e1⟩ := Kd.R_slice hV1'
  obtain ⟨a2, d2, e2⟩ := Kd.R_slice hV2'
  subst e0 e1 e2
  have B1 := Lib.hid b1
  have B2 := Lib.hid b2
  have HV0 := Lib.hid hV0'
  have HV1 := Lib.hid hV1'
  have HV2 := Lib.hid hV2'
  have HBw := Lib.hid hBw
  have k1a := blk_cell b1 0
  have k1b := blk_cell b1 1
  have k1c := blk_cell b1 2
  have f1a := blk_frozen b1 0
  have f1b := blk_frozen b1 1
  have f1c := blk_frozen b1 2
  simp only [List.getElem?_toArray, List.getElem?_cons_zero, List.getElem?_cons_succ] at k1a k1b k1c
  have N02 := Lib.hid n02
  have N12 := Lib.hid n12
  clear hbA hV0 hV1 hV2 hB1 b1 b2 hBw hV0' hV1' hV2' n02 n12
  dsimp only
  go_wp2_with fail
  have hBs : ∀ k, k ≠ w.heap.size → (((w1.setCell ⟨w.heap.size, 0, none⟩ (.slice a0 l0.length d0)).setCell ⟨w.heap.size, 1, none⟩ (.slice a1 l1.length d1)).setCell ⟨w.heap.size, 2, none⟩ (.slice a2 l2.length d2)).heap[k]? = w1.heap[k]? := fun k h => by
    rw [Below.heap_setCell _ _ _ _ h, Below.heap_setCell _ _ _ _ h, Below.heap_setCell _ _ _ _ h]
  have bB : (((w1.setCell ⟨w.heap.size, 0, none⟩ (.slice a0 l0.length d0)).setCell ⟨w.heap.size, 1, none⟩ (.slice a1 l1.length d1)).setCell ⟨w.heap.size, 2, none⟩ (.slice a2 l2.length d2)).heap[w.heap.size]? = some (.cells #[.slice a0 l0.length d0, .slice a1 l1.length d1, .slice a2 l2.length d2] 30 (0, 0)) := blk_set (blk_set (blk_set B1.out 0 _) 1 _) 2 _
  have hBB : Below w.heap.size w (((w1.setCell ⟨w.heap.size, 0, none⟩ (.slice a0 l0.length d0)).setCell ⟨w.heap.size, 1, none⟩ (.slice a1 l1.length d1)).setCell ⟨w.heap.size, 2, none⟩ (.slice a2 l2.length d2)) := ((HBw.out.setCell (p := ⟨w.heap.size, 0, none⟩) (Nat.le_refl _) _).setCell (p := ⟨w.heap.size, 1, none⟩) (Nat.le_refl _) _).setCell (p := ⟨w.heap.size, 2, none⟩) (Nat.le_refl _) _
  have hsB : (((w1.setCell ⟨w.heap.size, 0, none⟩ (.slice a0 l0.length d0)).setCell ⟨w.heap.size, 1, none⟩ (.slice a1 l1.length d1)).setCell ⟨w.heap.size, 2, none⟩ (.slice a2 l2.length d2)).heap.size = w1.heap.size := by simp [World.setCell]
  generalize hwB : (((w1.setCell ⟨w.heap.size, 0, none⟩ (.slice a0 l0.length d0)).setCell ⟨w.heap.size, 1, none⟩ (.slice a1 l1.length d1)).setCell ⟨w.heap.size, 2, none⟩ (.slice a2 l2.length d2)) = wB at *
  clear hwB
  refine (fuse_calls a0 d0 l0 a2 d2 l2 wB (w.heap.size + 2) _ _ (Kd.R_move HV0.out (fun k hk => hBs k (by have := hk.2.1; omega))) (Kd.R_move HV2.out (fun k hk => hBs k (by have := hk.2.1; omega))) f0 (by omega) (by omega) HW0.out HW2.out).mono ?_
  rintro e w3 ⟨v0', rfl, hD, hRw, hb3, hf3⟩
  have o0 : some w.heap.size ≠ (Value.slice a0 l0.length d0).ownBlock := fun e => by have := (HV0.out.1 _ e.symm).2.1; omega
  have o2 : some w.heap.size ≠ (Value.slice a2 l2.length d2).ownBlock := fun e => by have := (HV2.out.1 _ e.symm).2.1; omega
  have o0' : some (w.heap.size + 1) ≠ (Value.slice a0 l0.length d0).ownBlock := fun e => by have := (HV0.out.1 _ e.symm).2.1; omega
  have o2' : some (w.heap.size + 1) ≠ (Value.slice a2 l2.length d2).ownBlock := fun e => by have := (HV2.out.1 _ e.symm).2.1; omega
  have z3 := hb3.size
  have b3 : w3.heap[w.heap.size]? = _ := (hf3 w.heap.size (by omega) o0 o2).trans bB
  have b3' : w3.heap[w.heap.size + 1]? = _ := (hf3 (w.heap.size + 1) (by omega) o0' o2').trans ((hBs _ (by omega)).trans B2.out)
  have hE3 := Kd.R_move HV1.out (w1 := w3) (fun k hk => by
    rw [hf3 k (by have := hk.2.2.1; omega) (fun e => hk.1 (by exact e)) (fun e => typed_ne hk.2.2.2 (HV2.out.1 _ e.symm).2.2.2), hBs k (by have := hk.2.1; omega)])
  have hD' := Kd.R_bound hD
  have hB3 : Below w.heap.size w w3 := hBB.trans (hb3.mono (by omega))
  obtain ⟨a0', d0', e0'⟩ := Kd.R_slice hD'
  subst e0'
  have HD := Lib.hid hD'
  have HRw := Lib.hid hRw
  have HE3 := Lib.hid hE3
  have HB3 := Lib.hid hB3
  have HF3 := Lib.hid hf3
  have C3 := Lib.hid b3
  have C3' := Lib.hid b3'
  have k3a := blk_cell b3 0
  have k3b := blk_cell b3 1
  have k3c := blk_cell b3 2
  have f3a := blk_frozen b3 0
  have f3b := blk_frozen b3 1
  have f3c := blk_frozen b3 2
  simp only [List.getElem?_toArray, List.getElem?_cons_zero, List.getElem?_cons_succ] at k3a k3b k3c
  have z3a : w.heap.size < w3.heap.size := by omega
  have z3b : w.heap.size + 1 < w3.heap.size := by omega
  clear hD hD' hRw hE3 hB3 hf3 b3 b3' k1a k1b k1c f1a f1b f1c bB hBs hBB hb3 o0 o2 o0' o2'
  dsimp only
  go_wp2_with fail
  have hCs : ∀ k, k ≠ w.heap.size → (w3.setCell ⟨w.heap.size, 0, none⟩ (.slice a0' (fuseP l0 l2).1.length d0')).heap[k]? = w3.heap[k]? := fun k h => Below.heap_setCell _ _ _ _ h
  have bC : (w3.setCell ⟨w.heap.size, 0, none⟩ (.slice a0' (fuseP l0 l2).1.length d0')).heap[w.heap.size]? = some (.cells #[.slice a0' (fuseP l0 l2).1.length d0', .slice a1 l1.length d1, .slice a2 l2.length d2] 30 (0, 0)) := blk_set C3.out 0 _
  have hBC : Below w.heap.size w (w3.setCell ⟨w.heap.size, 0, none⟩ (.slice a0' (fuseP l0 l2).1.length d0')) := HB3.out.setCell (p := ⟨w.heap.size, 0, none⟩) (Nat.le_refl _) _
  have hsC : (w3.setCell ⟨w.heap.size, 0, none⟩ (.slice a0' (fuseP l0 l2).1.length d0')).heap.size = w3.heap.size := by simp [World.setCell]
  generalize hwC : w3.setCell ⟨w.heap.size, 0, none⟩ (.slice a0' (fuseP l0 l2).1.length d0') = wC at *
  clear hwC
  refine (fuse_calls a1 d1 l1 none 0 [] wC (w.heap.size + 2) _ (fun _ => False) (Kd.R_move HE3.out (fun k hk => hCs k (by have := hk.2.1; omega))) (Kd.R_nil k37 37 wC _ _) f1 (by simp) (by omega) HW1.out (by intro x hx; cases hx)).mono ?_
  rintro e w4 ⟨v1', rfl, hE, _, hb4, hf4⟩
  have o1 : some w.heap.size ≠ (Value.slice a1 l1.length d1).ownBlock := fun e => by have := (HV1.out.1 _ e.symm).2.1; omega
  have o1' : some (w.heap.size + 1) ≠ (Value.slice a1 l1.length d1).ownBlock := fun e => by have := (HV1.out.1 _ e.symm).2.1; omega
  have on : ∀ k : Nat, some k ≠ (Value.slice none ([] : List S37).length 0).ownBlock := fun k e => by simp [Value.ownBlock] at e
  have z4 := hb4.size
  have b4 : w4.heap[w.heap.size]? = _ := (hf4 w.heap.size (by omega) o1 (on _)).trans bC
  have b4' : w4.heap[w.heap.size + 1]? = _ := (hf4 (w.heap.size + 1) (by omega) o1' (on _)).trans ((hCs _ (by omega)).trans C3'.out)
  have hD4 := Kd.R_move HD.out (w1 := w4) (fun k hk => by
    rw [hf4 k (by have := hk.2.2.1; omega) (fun e => by have h1 := (HV1.out.1 _ e.symm).2.2.1; have h2 := hk.2.1; omega) (on _), hCs k (by have := hk.2.1; omega)])
  have hR4 := Kd.R_move HRw.out (w1 := w4) (fun k hk => by
    rw [hf4 k (by have := hk.2.2.1; omega) (fun e => typed_ne (HV1.out.1 _ e.symm).2.2.2 hk.2.2.2) (on _), hCs k (by have := hk.2.1; omega)])
  have hB4 : Below w.heap.size w w4 := hBC.trans (hb4.mono (by omega))
  obtain ⟨a1', d1', e1'⟩ := Kd.R_slice hE
  subst e1'
  have hne1 : ∀ k, wB.heap.size ≤ k → k < w3.heap.size → some k ≠ (Value.slice a1' (fuseP l1 []).1.length d1').ownBlock := fun k h1 h2 e => by
    have := ((Kd.R_bound hE).1 k e.symm).2.1; omega
  have hne0 : ∀ k, wC.heap.size ≤ k → some k ≠ (Value.slice a0' (fuseP l0 l2).1.length d0').ownBlock := fun k h1 e => by
    have := (HD.out.1 k e.symm).2.2.1; omega
  have HE := Lib.hid (Kd.R_bound hE)
  have HD4 := Lib.hid hD4
  have HR4 := Lib.hid hR4
  have HB4 := Lib.hid hB4
  have C4 := Lib.hid b4
  have C4' := Lib.hid b4'
  have HN0 := Lib.hid hne0
  have HN1 := Lib.hid hne1
  have k4a := blk_cell b4 0
  have k4b := blk_cell b4 1
  have k4c := blk_cell b4 2
  have f4a := blk_frozen b4 0
  have f4b := blk_frozen b4 1
  have f4c := blk_frozen b4 2
  have r4a := blk_cell b4' 0
  have r4b := blk_cell b4' 1
  have r4c := blk_cell b4' 2
  have g4a := blk_frozen b4' 0
  have g4b := blk_frozen b4' 1
  have g4c := blk_frozen b4' 2
  simp only [List.getElem?_toArray, List.getElem?_cons_zero, List.getElem?_cons_succ] at k4a k4b k4c r4a r4b r4c
  have z4a : w.heap.size < w4.heap.size := by omega
  have z4b : w.heap.size + 1 < w4.heap.size := by omega
  clear hE hD4 hR4 hB4 hf4 b4 b4' k3a k3b k3c f3a f3b f3c bC hCs hBC hb4 o1 o1' on hne0 hne1
  dsimp only
  go_wp2_with fail
  have hZ : ∀ k, k ≠ w.heap.size → k ≠ w.heap.size + 1 → ((((w4.setCell ⟨w.heap.size, 1, none⟩ (.slice a1' (fuseP l1 []).1.length d1')).setCell ⟨w.heap.size + 1, 0, none⟩ (.slice a0' (fuseP l0 l2).1.length d0')).setCell ⟨w.heap.size + 1, 1, none⟩ (.slice a1' (fuseP l1 []).1.length d1')).setCell ⟨w.heap.size + 1, 2, none⟩ (.slice a2 l2.length d2)).heap[k]? = w4.heap[k]? := fun k h1 h2 => by
    rw [Below.heap_setCell _ _ _ _ h2, Below.heap_setCell _ _ _ _ h2, Below.heap_setCell _ _ _ _ h2, Below.heap_setCell _ _ _ _ h1]
  refine bodyPost_ret (results_cell_row rfl _ _ (w.heap.size + 1) 30 #[.slice a0' (fuseP l0 l2).1.length d0', .slice a1' (fuseP l1 []).1.length d1', .slice a2 l2.length d2] (0, 0) _ rfl (blk_set (blk_set (blk_set ((Below.heap_setCell _ _ _ _ (by show w.heap.size + 1 ≠ w.heap.size; omega)).trans C4'.out) 0 _) 1 _) 2 _) Try.underlying30 rfl (by kernel_rfl)) rfl ?_
  refine ⟨_, _, _, rfl, ?_, ?_, ?_, ?_⟩
  · exact Kd.R_lower (Kd.R_mono (Kd.R_move HD4.out (fun k hk => hZ k (by have := hk.2.1; omega) (by have := hk.2.1; omega))) (fun k hk => HN1.out k hk.2.1 hk.2.2.1)) (by omega)
  · exact Kd.R_lower (Kd.R_mono (Kd.R_move HE.out (fun k hk => hZ k (by have := hk.2.1; omega) (by have := hk.2.1; omega))) (fun k hk => HN0.out k hk.2.1)) (by omega)
  · exact Kd.R_lower (Kd.R_mono (Kd.R_move HR4.out (fun k hk => hZ k (by have := hk.2.1; omega) (by have := hk.2.1; omega))) (fun _ _ => trivial)) (by omega)
  · exact (((HB4.out.setCell (p := ⟨w.heap.size, 1, none⟩) (Nat.le_refl _) _).setCell (p := ⟨w.heap.size + 1, 0, none⟩) (by show w.heap.size ≤ w.heap.size + 1; omega) _).setCell (p := ⟨w.heap.size + 1, 1, none⟩) (by show w.heap.size ≤ w.heap.size + 1; omega) _).setCell (p := ⟨w.heap.size + 1, 2, none⟩) (by show w.heap.size ≤ w.heap.size + 1; omega) _
end Go.Proofs.Ytedghbjmhcgilaa.A
end
section
namespace Go.Proofs.Ytedghbjmhcgilaa.A
open Go.RowKit Go.Shelf Go.Maps Go.Proofs.YtedghbjmhcgilaaW.PrintWords Go.Proofs.YtedghbjmhcgilaaW.PrintLast Go.Proofs.YtedghbjmhcgilaaW.PrintMore
open Go.Proofs.Ytedghbjmhcgilaa.POpt
attribute [local go_sem] Oper.semAt_some
set_option linter.unusedVariables false
set_option linter.unusedSimpArgs false
theorem Trim1_calls (x : S35) (w : World) : Calls Try.prog 47 #[.agg #[.int .i64 x.f0, .int .i64 x.f1, .int .i64 x.f2, .int .i64 x.f3, .int .i64 x.f4]] w fun e w' => e = .returned (.bool (x.f0 == 3)) ∧ Below w.heap.size w w' := by
  go_enter Try.func47, Try.ntmps47
  go_wp2
  go_ret
  exact ⟨rfl, (Below.refl _ _).alloc (Nat.le_refl _) _⟩
def jumpAt (l : List S35) : Int := match l.findIdx? (fun x => x.f0 == 3) with
  | some i => i
  | none => -1
theorem findIdx_take {l : List S35} {k : Nat} (hk : k < l.length) (h : ∀ i, (hi : i < k) → (l[i]'(by omega)).f0 ≠ 3) (h3 : (l[k]).f0 = 3) : jumpAt l = k := by
  unfold jumpAt
  have : l.findIdx? (fun x => x.f0 == 3) = some k := by
    rw [List.findIdx?_eq_some_iff_getElem]
    refine ⟨hk, by simp [h3], fun j hj => ?_⟩
    simpa using h j hj
  rw [this]
theorem findIdx_all {l : List S35} (h : ∀ i, (hi : i < l.length) → (l[i]).f0 ≠ 3) : jumpAt l = -1 := by
  unfold jumpAt
  have : l.findIdx? (fun x => x.f0 == 3) = none := by
    rw [List.findIdx?_eq_none_iff]
    intro x hx
    obtain ⟨i, hi, rfl⟩ := List.mem_iff_getElem.1 hx
    simpa using h i hi
  rw [this]
set_option maxRecDepth 100000 in
set_option maxHeartbeats 1000000 in
theorem IndexFunc_calls (A0 : Option Addr) (c0 : Nat) (l0 : List S35) (w : World) (hr0 : Kd.C k35 w A0 l0.length l0) :
    Calls Try.prog 62 #[.slice A0 l0.length c0, .func (.func 47) #[] #[]] w fun e w' => e = .returned (.int .i64 (jumpAt l0)) ∧ Below w.heap.size w w' := by
  have hmax := Kd.C_max hr0
  go_enter Try.func62, Try.ntmps62
  have HR0 := Lib.hid hr0
  clear hr0
  go_wp2_with fail
  go_loopw [8] (fun s8 wl => ∃ k : Nat, k ≤ l0.length ∧ s8 = .int .i64 k ∧ Hid (Below w.heap.size w wl) ∧ Hid (∀ i, (hi : i < k) → ∀ hl : i < l0.length, (l0[i]).f0 ≠ 3)) (fun s8 _ => l0.length - (intOf s8).toNat)
  case atStart => exact ⟨0, Nat.zero_le _, rfl, Below.refl _ _, fun i hi => absurd hi (Nat.not_lt_zero _)⟩
  case round =>
    obtain ⟨k, hk, rfl, HB, HF⟩ := hrel
    by_cases hlt : k < l0.length
    · have hltz : (k : Int) < (l0.length : Int) := by omega
      obtain ⟨ad, eA, q0, q1, q2, q3, q4⟩ := at_T35 (Kd.C_below HR0.out HB.out) (k : Int) (by omega) (by omega)
      subst eA
      rw [rdS hlt] at q0 q1 q2 q3 q4
      simp only [Int.toNat_natCast] at q0 q1 q2 q3 q4
      go_wp2_with fail
      refine (Trim1_calls l0[k] wr).mono ?_
      rintro e w1 ⟨rfl, hb⟩
      have HB1 := Lib.hid (HB.out.trans (hb.mono HB.out.size))
      clear hb
      dsimp only
      by_cases h3 : (l0[k]).f0 = 3
      · have t3 : ((l0[k]).f0 == 3) = true := by simp [h3]
        rw [t3]
        have HJ := Lib.hid (findIdx_take hlt (fun i hi => HF.out i hi (by omega)) h3)
        clear h3 t3
        go_wp2_with fail
        go_ret
        exact ⟨by rw [HJ.out]; rfl, HB1.out⟩
      · have t3 : ((l0[k]).f0 == 3) = false := by simp [h3]
        rw [t3]
        have H3 := Lib.hid h3
        clear h3 t3
        go_wp2_with fail
        refine ⟨⟨k + 1, by omega, by go_num, HB1.out, fun i hi hl => ?_⟩, by simp [intOf]; omega⟩
        by_cases hik : i = k
        · subst hik; exact H3.out
        · exact HF.out i (by omega) hl
    · have hkn : k = l0.length := by omega
      subst hkn
      have HJ := Lib.hid (findIdx_all (l := l0) (fun i hi => HF.out i hi hi))
      go_wp2_with fail
      go_ret
      exact ⟨by rw [HJ.out]; rfl, HB.out⟩
theorem ContainsFunc_calls (A0 : Option Addr) (c0 : Nat) (l0 : List S35) (w : World) (hr0 : Kd.C k35 w A0 l0.length l0) :
    Calls Try.prog 46 #[.slice A0 l0.length c0, .func (.func 47) #[] #[]] w fun e w' => e = .returned (.bool (decide (0 ≤ jumpAt l0))) ∧ Below w.heap.size w w' := by
  go_enter Try.func46, Try.ntmps46
  have HR0 := Lib.hid hr0
  clear hr0
  go_wp2_with fail
  refine (IndexFunc_calls A0 c0 l0 w HR0.out).mono ?_
  rintro e w1 ⟨rfl, hb⟩
  have HB := Lib.hid hb
  clear hb
  dsimp only
  go_wp2_with fail
  go_ret
  exact ⟨rfl, HB.out⟩
end Go.Proofs.Ytedghbjmhcgilaa.A
end
