import Derived.OwnWalk
import Derived.Lib.Hide
import Derived.Deep.RegionHeld3
import Derived.Test.YtedghbjmhcgilaaKt20
section
namespace Go.Proofs.Ytedghbjmhcgilaa.A
open Go.RowKit Go.Shelf Go.Maps Go.Proofs.YtedghbjmhcgilaaW.PrintWords Go.Proofs.YtedghbjmhcgilaaW.PrintLast Go.Proofs.YtedghbjmhcgilaaW.PrintMore
open Go.Proofs.Ytedghbjmhcgilaa.POpt
attribute [local go_sem] Oper.semAt_some
set_option linter.unusedVariables false
set_option linter.unusedSimpArgs false
set_option maxRecDepth 100000 in
set_option maxHeartbeats 0 in
theorem reg9 (K : Act → World → Prop) (Q' : Exit → Act → World → Prop) (ad : Addr) (bn c i gp g5 : Nat) (W : World) (B0 : Option Addr) (d0 : Nat) (l0 : List S35) (B1 : Option Addr) (d1 : Nat) (l1 : List S35) (B2 : Option Addr) (d2 : Nat) (l2 : List S37)
    (u14 u15 u16 u17 u18 u19 u20 u21 u22 u23 u24 u25 u26 u27 u28 u29 u30 u31 u32 u33 u34 u35 u36 u37 u38 u39 u40 u41 u42 u43 u44 u45 u46 u47 u48 u49 u50 u51 u52 u53 u54 u55 u56 u57 u58 u59 u60 u61 u62 u63 u64 u65 u66 u67 u68 u69 u70 u71 u72 u73 u74 u75 u76 u77 u78 u79 u80 u81 u82 u83 u84 u85 u86 u87 u88 u89 u90 u91 u92 : Value) (rT rF rH rM rB : List S35 × List S35 × List S37) (kt kb : Nat) (HTT : Hid (TablesF l0 l1 l2 = some rT)) (HFF : Hid (FuseF l0 l1 l2 = some rF)) (HHH : Hid (ThreadF l0 l1 l2 = some rH)) (HMM : Hid (TrimF kt l0 l1 l2 = some rM)) (HBB : Hid (BlockF kb l0 l1 l2 = some rB))
    (HNT : Hid (rT.1.length ≤ 2097152 ∧ rT.2.1.length ≤ 2097152 ∧ rT.2.2.length ≤ 2097152)) (HNF : Hid (rF.1.length ≤ 2097152 ∧ rF.2.1.length ≤ 2097152 ∧ rF.2.2.length ≤ 2097152)) (HNH : Hid (rH.1.length ≤ 2097152 ∧ rH.2.1.length ≤ 2097152 ∧ rH.2.2.length ≤ 2097152)) (HNM : Hid (rM.1.length ≤ 2097152 ∧ rM.2.1.length ≤ 2097152 ∧ rM.2.2.length ≤ 2097152)) (HNB : Hid (rB.1.length ≤ 2097152 ∧ rB.2.1.length ≤ 2097152 ∧ rB.2.2.length ≤ 2097152))
    (HP : Hid (W.heap[g5]? = some (.cells #[.slice B0 l0.length d0, .slice B1 l1.length d1, .slice B2 l2.length d2] 30 (0, 0)))) (hlt : g5 < W.heap.size) (HC0 : Hid (Kd.C k35 W B0 l0.length l0)) (HC1 : Hid (Kd.C k35 W B1 l1.length l1)) (HC2 : Hid (Kd.C k37 W B2 l2.length l2)) (hd0 : l0.length < d0) (hd1 : l1.length < d1) (hd2 : l2.length < d2)
    (hK : Hid (∀ (wc : World) (v6 v93 v94 v95 v96 v97 v98 v99 v100 v101 v102 v103 : Value), (∃ (A : Nat → Option Addr) (N C : Nat → Nat) (gL : Nat), v6 = .pointer (some ⟨gL, 0, none⟩) ∧ Hid (Dis A N C) ∧ Hid (KI A N C gL W.heap.size W 0 wc) ∧ Hid (∀ q, q < 15 → N q ≤ 2097152)) → K { tmps := #[.agg #[.slice (some ad) bn c], .int .i64 (i : Int), .pointer (some ⟨gp, 0, none⟩), undef, .bool false, .pointer (some ⟨g5, 0, none⟩), v6, undef, undef, undef, undef, undef, undef, undef, u14, u15, u16, u17, u18, u19, u20, u21, u22, u23, u24, u25, u26, u27, u28, u29, u30, u31, u32, u33, u34, u35, u36, u37, u38, u39, u40, u41, u42, u43, u44, u45, u46, u47, u48, u49, u50, u51, u52, u53, u54, u55, u56, u57, u58, u59, u60, u61, u62, u63, u64, u65, u66, u67, u68, u69, u70, u71, u72, u73, u74, u75, u76, u77, u78, u79, u80, u81, u82, u83, u84, u85, u86, u87, u88, u89, u90, u91, u92, v93, v94, v95, v96, v97, v98, v99, v100, v101, v102, v103, undef, undef, undef, undef, undef, undef, undef, undef, undef, undef, undef, undef, undef, undef, undef, undef, undef, undef, undef, undef, undef, undef, undef, undef, undef, undef, undef, undef, undef, undef, undef, undef, undef, undef, undef, undef, undef, undef, undef, undef, undef, undef, undef, undef, undef, undef, undef, undef, undef, undef, undef, undef, undef, undef, undef, undef, undef, undef, undef, undef, undef, undef, undef, undef, undef, undef, undef, undef, undef, undef, undef, undef, undef, undef, undef, undef, undef, undef, undef, undef, undef, undef, undef, undef, undef, undef, undef, undef, undef, undef, undef, undef, undef, undef, undef, undef, undef, undef, undef, undef, undef, undef, undef, undef, undef, undef, undef, undef, undef, undef, undef, undef, undef, undef, undef, undef, undef, undef, undef, undef, undef, undef, undef, undef, undef, undef, undef, undef, undef, undef, undef, undef, undef, undef], defers := [] } wc)) :
    Code.wp Try.prog (reg4 9) (Exit.then K Q') { tmps := #[.agg #[.slice (some ad) bn c], .int .i64 (i : Int), .pointer (some ⟨gp, 0, none⟩), undef, .bool false, .pointer (some ⟨g5, 0, none⟩), undef, undef, undef, undef, undef, undef, undef, undef, u14, u15, u16, u17, u18, u19, u20, u21, u22, u23, u24, u25, u26, u27, u28, u29, u30, u31, u32, u33, u34, u35, u36, u37, u38, u39, u40, u41, u42, u43, u44, u45, u46, u47, u48, u49, u50, u51, u52, u53, u54, u55, u56, u57, u58, u59, u60, u61, u62, u63, u64, u65, u66, u67, u68, u69, u70, u71, u72, u73, u74, u75, u76, u77, u78, u79, u80, u81, u82, u83, u84, u85, u86, u87, u88, u89, u90, u91, u92, undef, undef, undef, undef, undef, undef, undef, undef, undef, undef, undef, undef, undef, undef, undef, undef, undef, undef, undef, undef, undef, undef, undef, undef, undef, undef, undef, undef, undef, undef, undef, undef, undef, undef, undef, undef, undef, undef, undef, undef, undef, undef, undef, undef, undef, undef, undef, undef, undef, undef, undef, undef, undef, undef, undef, undef, undef, undef, undef, undef, undef, undef, undef, undef, undef, undef, undef, undef, undef, undef, undef, undef, undef, undef, undef, undef, undef, undef, undef, undef, undef, undef, undef, undef, undef, undef, undef, undef, undef, undef, undef, undef, undef, undef, undef, undef, undef, undef, undef, undef, undef, undef, undef, undef, undef, undef, undef, undef, undef, undef, undef, undef, undef, undef, undef, undef, undef, undef, undef, undef, undef, undef, undef, undef, undef, undef, undef, undef, undef, undef, undef, undef, undef, undef, undef, undef, undef, undef, undef, undef, undef, undef, undef, undef, undef], defers := [] } W := by
  conv => arg 2; whnf
  have nxh : W.heap.size ≠ g5 := by omega
  have yo0 := blk_cell HP.out 0
  have yo1 := blk_cell HP.out 1
  have yo2 := blk_cell HP.out 2
  simp only [List.getElem?_toArray, List.getElem?_cons_zero, List.getElem?_cons_succ] at yo0 yo1 yo2
  go_region_held3 (fun w' => w'.cell? ⟨g5, 0, none⟩ = some (.slice B0 l0.length d0) ∧ w'.cell? ⟨g5, 1, none⟩ = some (.slice B1 l1.length d1) ∧ w'.cell? ⟨g5, 2, none⟩ = some (.slice B2 l2.length d2))
    (go_keep)
    (first
      | (go_at_call 11; go_loud (refine (TablesF_calls B0 d0 l0 B1 d1 l1 B2 d2 l2 rT.1 rT.2.1 rT.2.2 _ (Kd.C_below HC0.out (by repeat (first | exact Below.refl _ _ | apply below_drew1 | (refine Below.alloc ?_ (by first | omega | (simp; done) | (simp; omega)) _)))) (Nat.le_of_lt hd0) (Kd.C_below HC1.out (by repeat (first | exact Below.refl _ _ | apply below_drew1 | (refine Below.alloc ?_ (by first | omega | (simp; done) | (simp; omega)) _)))) (Nat.le_of_lt hd1) (Kd.C_below HC2.out (by repeat (first | exact Below.refl _ _ | apply below_drew1 | (refine Below.alloc ?_ (by first | omega | (simp; done) | (simp; omega)) _)))) (Nat.le_of_lt hd2) HTT.out).mono ?_);
         rintro e x0 ⟨v0, v1, v2, rfl, ho0, ho1, ho2, hb⟩;
         obtain ⟨P00, p00, e0⟩ := Kd.R_slice ho0; subst e0;
         obtain ⟨P01, p01, e1⟩ := Kd.R_slice ho1; subst e1;
         obtain ⟨P02, p02, e2⟩ := Kd.R_slice ho2; subst e2;
         have HT0 := Lib.hid (T3.of (lo := W.heap.size) ho0 ho1 ho2 (by first | omega | (simp; done) | (simp; omega)));
         have HX0 : Hid (Below W.heap.size W x0) := Lib.hid (Below.trans (by repeat (first | exact Below.refl _ _ | apply below_drew1 | (refine Below.alloc ?_ (by first | omega | (simp; done) | (simp; omega)) _))) (hb.mono (by first | omega | (simp; done) | (simp; omega))));
         have hzx0 := HX0.out.size;
         have nx0 : x0.heap.size ≠ g5 := (by omega);
         have HW0 : Hid (Below W.heap.size W x0) := Lib.hid (HX0.out);
         have HP0 := Lib.hid ((HW0.out.block g5 hlt).trans HP.out);
         (have y00 := blk_cell HP0.out 0; have y01 := blk_cell HP0.out 1; have y02 := blk_cell HP0.out 2; simp only [List.getElem?_toArray, List.getElem?_cons_zero, List.getElem?_cons_succ] at y00 y01 y02);
         (first | (have HLL := Lib.hid ((hb.block _ (blk_lt HL.out)).trans HL.out); clear HL; have HL := HLL; clear HLL) | (have HL : Hid (x0.heap[W.heap.size]? = some (.cells #[.slice none 0 0, .slice none 0 0, .slice none 0 0, .slice none 0 0, .slice none 0 0, .slice none 0 0, .slice none 0 0, .slice none 0 0, .slice none 0 0, .slice none 0 0, .slice none 0 0, .slice none 0 0, .slice none 0 0, .slice none 0 0, .slice none 0 0] 38 (0, 0))) := Lib.hid (blk_below (blk_new W.drew _) hb)) | skip);
         clear ho0 ho1 ho2 hb)
      | (go_at_call 13; go_loud (refine (FuseF_calls B0 d0 l0 B1 d1 l1 B2 d2 l2 rF.1 rF.2.1 rF.2.2 _ (Kd.C_below HC0.out (by repeat (first | exact Below.refl _ _ | exact HW0.out | apply below_drew1 | (refine Below.alloc ?_ (by first | omega | (simp; done) | (simp; omega)) _)))) (Nat.le_of_lt hd0) (Kd.C_below HC1.out (by repeat (first | exact Below.refl _ _ | exact HW0.out | apply below_drew1 | (refine Below.alloc ?_ (by first | omega | (simp; done) | (simp; omega)) _)))) (Nat.le_of_lt hd1) (Kd.C_below HC2.out (by repeat (first | exact Below.refl _ _ | exact HW0.out | apply below_drew1 | (refine Below.alloc ?_ (by first | omega | (simp; done) | (simp; omega)) _)))) (Nat.le_of_lt hd2) HFF.out).mono ?_);
         rintro e x1 ⟨v0, v1, v2, rfl, ho0, ho1, ho2, hb⟩;
         obtain ⟨P10, p10, e0⟩ := Kd.R_slice ho0; subst e0;
         obtain ⟨P11, p11, e1⟩ := Kd.R_slice ho1; subst e1;
         obtain ⟨P12, p12, e2⟩ := Kd.R_slice ho2; subst e2;
         have HT1 := Lib.hid (T3.of (lo := x0.heap.size) ho0 ho1 ho2 (by first | omega | (simp; done) | (simp; omega)));
         have HX1 : Hid (Below x0.heap.size x0 x1) := Lib.hid (Below.trans (by repeat (first | exact Below.refl _ _ | apply below_drew1 | (refine Below.alloc ?_ (by first | omega | (simp; done) | (simp; omega)) _))) (hb.mono (by first | omega | (simp; done) | (simp; omega))));
         have hzx1 := HX1.out.size;
         have nx1 : x1.heap.size ≠ g5 := (by omega);
         have HW1 : Hid (Below W.heap.size W x1) := Lib.hid (HW0.out.trans (HX1.out.mono HW0.out.size));
         have HP1 := Lib.hid ((HW1.out.block g5 hlt).trans HP.out);
         (have y10 := blk_cell HP1.out 0; have y11 := blk_cell HP1.out 1; have y12 := blk_cell HP1.out 2; simp only [List.getElem?_toArray, List.getElem?_cons_zero, List.getElem?_cons_succ] at y10 y11 y12);
         (first | (have HLL := Lib.hid ((hb.block _ (blk_lt HL.out)).trans HL.out); clear HL; have HL := HLL; clear HLL) | (have HL : Hid (x1.heap[x0.heap.size]? = some (.cells #[.slice none 0 0, .slice none 0 0, .slice none 0 0, .slice none 0 0, .slice none 0 0, .slice none 0 0, .slice none 0 0, .slice none 0 0, .slice none 0 0, .slice none 0 0, .slice none 0 0, .slice none 0 0, .slice none 0 0, .slice none 0 0, .slice none 0 0] 38 (0, 0))) := Lib.hid (blk_below (blk_new x0 _) hb)) | skip);
         clear ho0 ho1 ho2 hb)
      | (go_at_call 15; go_loud (refine (ThreadF_calls B0 d0 l0 B1 d1 l1 B2 d2 l2 rH.1 rH.2.1 rH.2.2 _ (Kd.C_below HC0.out (by repeat (first | exact Below.refl _ _ | exact HW1.out | apply below_drew1 | (refine Below.alloc ?_ (by first | omega | (simp; done) | (simp; omega)) _)))) (Nat.le_of_lt hd0) (Kd.C_below HC1.out (by repeat (first | exact Below.refl _ _ | exact HW1.out | apply below_drew1 | (refine Below.alloc ?_ (by first | omega | (simp; done) | (simp; omega)) _)))) (Nat.le_of_lt hd1) (Kd.C_below HC2.out (by repeat (first | exact Below.refl _ _ | exact HW1.out | apply below_drew1 | (refine Below.alloc ?_ (by first | omega | (simp; done) | (simp; omega)) _)))) (Nat.le_of_lt hd2) HHH.out).mono ?_);
         rintro e x2 ⟨v0, v1, v2, rfl, ho0, ho1, ho2, hb⟩;
         obtain ⟨P20, p20, e0⟩ := Kd.R_slice ho0; subst e0;
         obtain ⟨P21, p21, e1⟩ := Kd.R_slice ho1; subst e1;
         obtain ⟨P22, p22, e2⟩ := Kd.R_slice ho2; subst e2;
         have HT2 := Lib.hid (T3.of (lo := x1.heap.size) ho0 ho1 ho2 (by first | omega | (simp; done) | (simp; omega)));
         have HX2 : Hid (Below x1.heap.size x1 x2) := Lib.hid (Below.trans (by repeat (first | exact Below.refl _ _ | apply below_drew1 | (refine Below.alloc ?_ (by first | omega | (simp; done) | (simp; omega)) _))) (hb.mono (by first | omega | (simp; done) | (simp; omega))));
         have hzx2 := HX2.out.size;
         have nx2 : x2.heap.size ≠ g5 := (by omega);
         have HW2 : Hid (Below W.heap.size W x2) := Lib.hid (HW1.out.trans (HX2.out.mono HW1.out.size));
         have HP2 := Lib.hid ((HW2.out.block g5 hlt).trans HP.out);
         (have y20 := blk_cell HP2.out 0; have y21 := blk_cell HP2.out 1; have y22 := blk_cell HP2.out 2; simp only [List.getElem?_toArray, List.getElem?_cons_zero, List.getElem?_cons_succ] at y20 y21 y22);
         (first | (have HLL := Lib.hid ((hb.block _ (blk_lt HL.out)).trans HL.out); clear HL; have HL := HLL; clear HLL) | (have HL : Hid (x2.heap[x1.heap.size]? = some (.cells #[.slice none 0 0, .slice none 0 0, .slice none 0 0, .slice none 0 0, .slice none 0 0, .slice none 0 0, .slice none 0 0, .slice none 0 0, .slice none 0 0, .slice none 0 0, .slice none 0 0, .slice none 0 0, .slice none 0 0, .slice none 0 0, .slice none 0 0] 38 (0, 0))) := Lib.hid (blk_below (blk_new x1 _) hb)) | skip);
         clear ho0 ho1 ho2 hb)
      | (go_at_call 17; go_loud (refine (TrimF_calls B0 d0 l0 B1 d1 l1 B2 d2 l2 rM.1 rM.2.1 rM.2.2 _ (Kd.C_below HC0.out (by repeat (first | exact Below.refl _ _ | exact HW2.out | apply below_drew1 | (refine Below.alloc ?_ (by first | omega | (simp; done) | (simp; omega)) _)))) (Nat.le_of_lt hd0) (Kd.C_below HC1.out (by repeat (first | exact Below.refl _ _ | exact HW2.out | apply below_drew1 | (refine Below.alloc ?_ (by first | omega | (simp; done) | (simp; omega)) _)))) (Nat.le_of_lt hd1) (Kd.C_below HC2.out (by repeat (first | exact Below.refl _ _ | exact HW2.out | apply below_drew1 | (refine Below.alloc ?_ (by first | omega | (simp; done) | (simp; omega)) _)))) (Nat.le_of_lt hd2)  kt HMM.out).mono ?_);
         rintro e x3 ⟨v0, v1, v2, rfl, ho0, ho1, ho2, hb⟩;
         obtain ⟨P30, p30, e0⟩ := Kd.R_slice ho0; subst e0;
         obtain ⟨P31, p31, e1⟩ := Kd.R_slice ho1; subst e1;
         obtain ⟨P32, p32, e2⟩ := Kd.R_slice ho2; subst e2;
         have HT3 := Lib.hid (T3.of (lo := x2.heap.size) ho0 ho1 ho2 (by first | omega | (simp; done) | (simp; omega)));
         have HX3 : Hid (Below x2.heap.size x2 x3) := Lib.hid (Below.trans (by repeat (first | exact Below.refl _ _ | apply below_drew1 | (refine Below.alloc ?_ (by first | omega | (simp; done) | (simp; omega)) _))) (hb.mono (by first | omega | (simp; done) | (simp; omega))));
         have hzx3 := HX3.out.size;
         have nx3 : x3.heap.size ≠ g5 := (by omega);
         have HW3 : Hid (Below W.heap.size W x3) := Lib.hid (HW2.out.trans (HX3.out.mono HW2.out.size));
         have HP3 := Lib.hid ((HW3.out.block g5 hlt).trans HP.out);
         (have y30 := blk_cell HP3.out 0; have y31 := blk_cell HP3.out 1; have y32 := blk_cell HP3.out 2; simp only [List.getElem?_toArray, List.getElem?_cons_zero, List.getElem?_cons_succ] at y30 y31 y32);
         (first | (have HLL := Lib.hid ((hb.block _ (blk_lt HL.out)).trans HL.out); clear HL; have HL := HLL; clear HLL) | (have HL : Hid (x3.heap[x2.heap.size]? = some (.cells #[.slice none 0 0, .slice none 0 0, .slice none 0 0, .slice none 0 0, .slice none 0 0, .slice none 0 0, .slice none 0 0, .slice none 0 0, .slice none 0 0, .slice none 0 0, .slice none 0 0, .slice none 0 0, .slice none 0 0, .slice none 0 0, .slice none 0 0] 38 (0, 0))) := Lib.hid (blk_below (blk_new x2 _) hb)) | skip);
         clear ho0 ho1 ho2 hb)
      | (go_at_call 19; go_loud (refine (BlockF_calls kb B0 d0 l0 B1 d1 l1 B2 d2 l2 rB.1 rB.2.1 rB.2.2 _ (Kd.C_below HC0.out (by repeat (first | exact Below.refl _ _ | exact HW3.out | apply below_drew1 | (refine Below.alloc ?_ (by first | omega | (simp; done) | (simp; omega)) _)))) (Nat.le_of_lt hd0) (Kd.C_below HC1.out (by repeat (first | exact Below.refl _ _ | exact HW3.out | apply below_drew1 | (refine Below.alloc ?_ (by first | omega | (simp; done) | (simp; omega)) _)))) (Nat.le_of_lt hd1) (Kd.C_below HC2.out (by repeat (first | exact Below.refl _ _ | exact HW3.out | apply below_drew1 | (refine Below.alloc ?_ (by first | omega | (simp; done) | (simp; omega)) _)))) (Nat.le_of_lt hd2) HBB.out).mono ?_);
         rintro e x4 ⟨v0, v1, v2, rfl, ho0, ho1, ho2, hb⟩;
         obtain ⟨P40, p40, e0⟩ := Kd.R_slice ho0; subst e0;
         obtain ⟨P41, p41, e1⟩ := Kd.R_slice ho1; subst e1;
         obtain ⟨P42, p42, e2⟩ := Kd.R_slice ho2; subst e2;
         have HT4 := Lib.hid (T3.of (lo := x3.heap.size) ho0 ho1 ho2 (by first | omega | (simp; done) | (simp; omega)));
         have HX4 : Hid (Below x3.heap.size x3 x4) := Lib.hid (Below.trans (by repeat (first | exact Below.refl _ _ | apply below_drew1 | (refine Below.alloc ?_ (by first | omega | (simp; done) | (simp; omega)) _))) (hb.mono (by first | omega | (simp; done) | (simp; omega))));
         have hzx4 := HX4.out.size;
         have nx4 : x4.heap.size ≠ g5 := (by omega);
         have HW4 : Hid (Below W.heap.size W x4) := Lib.hid (HW3.out.trans (HX4.out.mono HW3.out.size));
         have HP4 := Lib.hid ((HW4.out.block g5 hlt).trans HP.out);
         (have y40 := blk_cell HP4.out 0; have y41 := blk_cell HP4.out 1; have y42 := blk_cell HP4.out 2; simp only [List.getElem?_toArray, List.getElem?_cons_zero, List.getElem?_cons_succ] at y40 y41 y42);
         (first | (have HLL := Lib.hid ((hb.block _ (blk_lt HL.out)).trans HL.out); clear HL; have HL := HLL; clear HLL) | (have HL : Hid (x4.heap[x3.heap.size]? = some (.cells #[.slice none 0 0, .slice none 0 0, .slice none 0 0, .slice none 0 0, .slice none 0 0, .slice none 0 0, .slice none 0 0, .slice none 0 0, .slice none 0 0, .slice none 0 0, .slice none 0 0, .slice none 0 0, .slice none 0 0, .slice none 0 0, .slice none 0 0] 38 (0, 0))) := Lib.hid (blk_below (blk_new x3 _) hb)) | skip);
         (try (have lf := fun q => blk_frozen HL.out q; have ll0 := blk_cell HL.out 0; have ll1 := blk_cell HL.out 1; have ll2 := blk_cell HL.out 2; have ll3 := blk_cell HL.out 3; have ll4 := blk_cell HL.out 4; have ll5 := blk_cell HL.out 5; have ll6 := blk_cell HL.out 6; have ll7 := blk_cell HL.out 7; have ll8 := blk_cell HL.out 8; have ll9 := blk_cell HL.out 9; have ll10 := blk_cell HL.out 10; have ll11 := blk_cell HL.out 11; have ll12 := blk_cell HL.out 12; have ll13 := blk_cell HL.out 13; have ll14 := blk_cell HL.out 14; have lf0 := lf 0; have lf1 := lf 1; have lf2 := lf 2; have lf3 := lf 3; have lf4 := lf 4; have lf5 := lf 5; have lf6 := lf 6; have lf7 := lf 7; have lf8 := lf 8; have lf9 := lf 9; have lf10 := lf 10; have lf11 := lf 11; have lf12 := lf 12; have lf13 := lf 13; have lf14 := lf 14; clear lf; simp only [List.getElem?_toArray, List.getElem?_cons_zero, List.getElem?_cons_succ] at ll0 ll1 ll2 ll3 ll4 ll5 ll6 ll7 ll8 ll9 ll10 ll11 ll12 ll13 ll14));
         clear ho0 ho1 ho2 hb))
  all_goals
    refine hK.out _ _ _ _ _ _ _ _ _ _ _ _ _ ?_
    have b3 := HX4.out
    have b2 := HX3.out.trans (b3.mono HX3.out.size)
    have b1 := HX2.out.trans (b2.mono HX2.out.size)
    have b0 := HX1.out.trans (b1.mono HX1.out.size)
    have hwx : W.heap.size ≤ x0.heap.size := HX0.out.size
    have h4 : x4.heap.size ≤ x4.heap.size := Nat.le_refl _
    have hw4 := HW4.out.size
    first
      | (have hll := HL.out; exact KI.finB (HT0.out.below b0) (HT1.out.below b1) (HT2.out.below b2) (HT3.out.below b3) HT4.out hwx hzx1 hzx2 hzx3 hzx4 HNT.out HNF.out HNH.out HNM.out HNB.out h4 HW4.out (by first | exact Nat.le_refl _ | omega) hll)
      | exact KI.finA (HT0.out.below b0) (HT1.out.below b1) (HT2.out.below b2) (HT3.out.below b3) HT4.out hwx hzx1 hzx2 hzx3 hzx4 HNT.out HNF.out HNH.out HNM.out HNB.out h4 HW4.out hw4
end Go.Proofs.Ytedghbjmhcgilaa.A
end
