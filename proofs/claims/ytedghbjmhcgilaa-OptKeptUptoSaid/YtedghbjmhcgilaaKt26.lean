import Derived.OwnWalk
import Derived.Lib.Hide
import Derived.Deep.RegionHeld3
import Derived.Deep.DeepCutAuto
import Derived.Test.YtedghbjmhcgilaaKt4
import Derived.Test.YtedghbjmhcgilaaKt14
import Derived.Test.YtedghbjmhcgilaaKt19
import Derived.Test.YtedghbjmhcgilaaKt21
import Derived.Test.YtedghbjmhcgilaaKt22
import Derived.Test.YtedghbjmhcgilaaKt23
import Derived.Test.YtedghbjmhcgilaaKt24
import Derived.Test.YtedghbjmhcgilaaKt25
section
namespace Go.Proofs.Ytedghbjmhcgilaa.A
open Go.RowKit Go.Shelf Go.Maps Go.Proofs.YtedghbjmhcgilaaW.PrintWords Go.Proofs.YtedghbjmhcgilaaW.PrintLast Go.Proofs.YtedghbjmhcgilaaW.PrintMore
open Go.Proofs.Ytedghbjmhcgilaa.POpt
attribute [local go_sem] Oper.semAt_some
set_option linter.unusedVariables false
set_option linter.unusedSimpArgs false
set_option maxRecDepth 100000 in
set_option maxHeartbeats 0 in
theorem kept_in (A : Option Addr) (c : Nat) (bs : List S30) (i : Nat) (w : World) (hr : Kd.C k30 w A bs.length bs) (hc : bs.length ≤ c) (ka : Nat) (ha : cartouchelaw14_awake.f ka = some true) (kv : Nat) (hv : cartoucheref13_Valid.f kv bs = some true) (hi : i < bs.length)
    (l0 l1 : List S35) (l2 : List S37) (hx : rd_T30 bs (i : Int) = ⟨l0, l1, l2⟩) (hn0 : l0.length ≤ 1048576) (hn1 : l1.length ≤ 1048576) (hn2 : l2.length ≤ 1048576)
    (rT rF rH rM rB : List S35 × List S35 × List S37) (kt kb ks : Nat) (hT : TablesF l0 l1 l2 = some rT) (hF : FuseF l0 l1 l2 = some rF) (hH : ThreadF l0 l1 l2 = some rH) (hM : TrimF kt l0 l1 l2 = some rM) (hBk : BlockF kb l0 l1 l2 = some rB) (hnT : rT.1.length ≤ 2097152 ∧ rT.2.1.length ≤ 2097152 ∧ rT.2.2.length ≤ 2097152) (hnF : rF.1.length ≤ 2097152 ∧ rF.2.1.length ≤ 2097152 ∧ rF.2.2.length ≤ 2097152) (hnH : rH.1.length ≤ 2097152 ∧ rH.2.1.length ≤ 2097152 ∧ rH.2.2.length ≤ 2097152) (hnM : rM.1.length ≤ 2097152 ∧ rM.2.1.length ≤ 2097152 ∧ rM.2.2.length ≤ 2097152) (hnB : rB.1.length ≤ 2097152 ∧ rB.2.1.length ≤ 2097152 ∧ rB.2.2.length ≤ 2097152) (hsm : cartouchelaw14_same.f ks l0 l1 l2 l0 l1 l2 = some true) :
    Calls Try.prog 4 #[.agg #[.slice A bs.length c], .int .i64 (i : Int)] w fun e w' => e = .returned (.bool true) ∧ Below w.heap.size w w' := by
  have hbl : bs.length ≤ 9223372036854775807 := Kd.C_max hr
  have HR := Lib.hid hr
  have HTT := Lib.hid hT
  have HFF := Lib.hid hF
  have HHH := Lib.hid hH
  have HMM := Lib.hid hM
  have HBB := Lib.hid hBk
  have HSM := Lib.hid hsm
  have HNT := Lib.hid hnT
  have HNF := Lib.hid hnF
  have HNH := Lib.hid hnH
  have HNM := Lib.hid hnM
  have HNB := Lib.hid hnB
  clear hT hF hH hM hBk hsm hnT hnF hnH hnM hnB
  have HA := Lib.hid ha
  have HV := Lib.hid hv
  have HB0 : Hid (Below w.heap.size w (w.alloc (.cells #[.slice A bs.length c] 24))) := (Below.refl _ _).alloc (Nat.le_refl _) _
  have HX0 := Lib.hid (blk_new w (.cells #[.slice A bs.length c] 24))
  have hiz : (i : Int) < (bs.length : Int) := by omega
  obtain ⟨ad, A0, c0, A1, c1, A2, c2, hA, q0, q1, q2, m0, r0, m1, r1, m2, r2⟩ := at_T30 hr (i : Int) (by omega) (by omega)
  subst hA
  rw [hx] at q0 q1 q2 m0 r0 m1 r1 m2 r2
  simp only [Int.toNat_natCast] at q0 q1 q2
  have hadl := World.block_lt_of_cell? _ _ q0
  have hadl' : ad.block < w.heap.size := by unfold Addr.add at hadl; split at hadl <;> exact hadl
  have R0 := Lib.hid r0
  have R1 := Lib.hid r1
  have R2 := Lib.hid r2
  have Q0 := Lib.hid q0
  have Q1 := Lib.hid q1
  have Q2 := Lib.hid q2
  clear hr ha hv hx r0 r1 r2 q0 q1 q2
  go_enter Try.func4, Try.ntmps4
  go_wp2_with fail
  refine (cartouchelaw14_awake.calls ka true _ HA.out).mono ?_
  rintro e w1 ⟨rfl, hb1⟩
  have z1 := hb1.size
  simp only [World.size_alloc] at z1
  have x1 := blk_below HX0.out hb1
  have p1 := blk_cell x1 0
  simp only [List.getElem?_toArray, List.getElem?_cons_zero, List.getElem?_cons_succ] at p1
  have HB1 := Lib.hid (HB0.out.trans (hb1.mono (by simp)))
  have X1 := Lib.hid x1
  clear hb1 x1
  dsimp only
  go_wp2_with fail
  refine (cartoucheref13_Valid.calls kv (some ad) c bs _ _ (Kd.C_below HR.out HB1.out) hc HV.out).mono ?_
  rintro e w2 ⟨rfl, hb2⟩
  have z2 := hb2.size
  have x2 := blk_below X1.out hb2
  have HB2 := Lib.hid (HB1.out.trans (hb2.mono (by omega)))
  have hz2 : w.heap.size < w2.heap.size := by omega
  have X2 := Lib.hid x2
  have p2 := blk_cell x2 0
  simp only [List.getElem?_toArray, List.getElem?_cons_zero, List.getElem?_cons_succ] at p2
  have hq0 := (World.cell?_of_block (HB2.out.block _ hadl)).trans Q0.out
  have hq1 := (World.cell?_of_block (a := ⟨(ad.add (i * 3)).block, (ad.add (i * 3)).off + 1, none⟩) (HB2.out.block (ad.add (i * 3)).block hadl)).trans Q1.out
  have hq2 := (World.cell?_of_block (a := ⟨(ad.add (i * 3)).block, (ad.add (i * 3)).off + 2, none⟩) (HB2.out.block (ad.add (i * 3)).block hadl)).trans Q2.out
  clear hb2 x2 p1
  dsimp only
  go_wp2_with fail
  generalize hwn : w2.alloc (.cells #[.slice none 0 0, .slice none 0 0, .slice none 0 0] 30) = wa
  have HPwa : Hid (wa.heap[w2.heap.size]? = some (.cells #[.slice none 0 0, .slice none 0 0, .slice none 0 0] 30 (0, 0))) := by rw [← hwn]; exact blk_new _ _
  have HBwa : Hid (Below w2.heap.size w2 wa) := by rw [← hwn]; exact (Below.refl _ _).alloc (Nat.le_refl _) _
  clear hwn
  have hs0 : (0 : Int) ≤ (i : Int) := by omega
  have hltwa : w2.heap.size < wa.heap.size := blk_lt HPwa.out
  have huwa := (World.cell?_of_block (a := ⟨w.heap.size, 0, none⟩) (HBwa.out.block _ hz2)).trans p2
  have hkwa := (World.cell?_of_block (a := ad.add (i * 3)) (HBwa.out.block (ad.add (i * 3)).block (by omega))).trans hq0
  refine wp_reg4 6 (by kernel_rfl) ?_
  refine reg6 _ _ ad bs.length c i w.heap.size w2.heap.size wa A0 c0 l0  _ _ _ _ _ _ _ _ _ _ _ _ _ _ _ _ hs0 hiz hn0 hz2 (by omega) HPwa hltwa huwa hkwa (Lib.hid (Kd.C_below R0.out (HB2.out.trans (HBwa.out.mono (by omega))))) (Lib.hid ?_)
  rintro wf v30 v31 v32 v33 v34 v35 v36 v37 v38 v39 v40 v41 v42 v43 v44 v45 v46 v47 v48 v49 v50 ⟨B0, d0, HPwf, HOwf, HBXwf, HFwf⟩
  have HBwf := Lib.hid (HBwa.out.trans HBXwf.out)
  have hzwf := HBXwf.out.size
  go_wp2_with fail
  have hltwf : w2.heap.size < wf.heap.size := blk_lt HPwf.out
  have huwf := (World.cell?_of_block (a := ⟨w.heap.size, 0, none⟩) (HBwf.out.block _ hz2)).trans p2
  have hkwf := (World.cell?_of_block (a := ⟨(ad.add (i * 3)).block, (ad.add (i * 3)).off + 1, none⟩) (HBwf.out.block (ad.add (i * 3)).block (by omega))).trans hq1
  refine wp_reg4 7 (by kernel_rfl) ?_
  refine reg7 _ _ ad bs.length c i w.heap.size w2.heap.size wf A1 c1 l1 B0 d0 l0 _ _ _ _ _ _ _ _ _ _ _ _ _ _ _ _ _ _ _ _ _ _ _ _ _ _ _ _ _ _ _ _ _ _ _ _ _ hs0 hiz hn1 hz2 (by omega) HPwf hltwf huwf hkwf (Lib.hid (Kd.C_below R1.out (HB2.out.trans (HBwf.out.mono (by omega))))) (Lib.hid ?_)
  rintro wg v51 v52 v53 v54 v55 v56 v57 v58 v59 v60 v61 v62 v63 v64 v65 v66 v67 v68 v69 v70 v71 ⟨B1, d1, HPwg, HOwg, HBXwg, HFwg⟩
  have HBwg := Lib.hid (HBwf.out.trans HBXwg.out)
  have hzwg := HBXwg.out.size
  go_wp2_with fail
  have hltwg : w2.heap.size < wg.heap.size := blk_lt HPwg.out
  have huwg := (World.cell?_of_block (a := ⟨w.heap.size, 0, none⟩) (HBwg.out.block _ hz2)).trans p2
  have hkwg := (World.cell?_of_block (a := ⟨(ad.add (i * 3)).block, (ad.add (i * 3)).off + 2, none⟩) (HBwg.out.block (ad.add (i * 3)).block (by omega))).trans hq2
  refine wp_reg4 8 (by kernel_rfl) ?_
  refine reg8 _ _ ad bs.length c i w.heap.size w2.heap.size wg A2 c2 l2 B0 d0 l0 B1 d1 l1 _ _ _ _ _ _ _ _ _ _ _ _ _ _ _ _ _ _ _ _ _ _ _ _ _ _ _ _ _ _ _ _ _ _ _ _ _ _ _ _ _ _ _ _ _ _ _ _ _ _ _ _ _ _ _ _ _ _ hs0 hiz hn2 hz2 (by omega) HPwg hltwg huwg hkwg (Lib.hid (Kd.C_below R2.out (HB2.out.trans (HBwg.out.mono (by omega))))) (Lib.hid ?_)
  rintro wh v72 v73 v74 v75 v76 v77 v78 v79 v80 v81 v82 v83 v84 v85 v86 v87 v88 v89 v90 v91 v92 ⟨B2, d2, HPwh, HOwh, HBXwh, HFwh⟩
  have HBwh := Lib.hid (HBwg.out.trans HBXwh.out)
  have hzwh := HBXwh.out.size
  go_wp2_with fail
  have hltwh : w2.heap.size < wh.heap.size := blk_lt HPwh.out
  have huwh := (World.cell?_of_block (a := ⟨w.heap.size, 0, none⟩) (HBwh.out.block _ hz2)).trans p2
  have HK0g := Lib.hid (Kd.R_step (Kd.R_types HOwf.out HPwf.out (by decide)) (fun k hk hlt => HFwg.out k hlt hk.2))
  have HK0 := Lib.hid (Kd.R_step HK0g.out (fun k hk hlt => HFwh.out k hlt hk.2))
  have HK1 := Lib.hid (Kd.R_step (Kd.R_types HOwg.out HPwg.out (by decide)) (fun k hk hlt => HFwh.out k hlt hk.2))
  have hd0 : l0.length < d0 := (Kd.R_reads' HK0.out).2.1
  have hd1 : l1.length < d1 := (Kd.R_reads' HK1.out).2.1
  have hd2 : l2.length < d2 := (Kd.R_reads' HOwh.out).2.1
  have HC0 := Lib.hid (C_prefix (Kd.R_reads' HK0.out).2.2 rfl)
  have HC1 := Lib.hid (C_prefix (Kd.R_reads' HK1.out).2.2 rfl)
  have HC2 := Lib.hid (C_prefix (Kd.R_reads' HOwh.out).2.2 rfl)
  refine wp_reg4 9 (by kernel_rfl) ?_
  refine reg9 _ _ ad bs.length c i w.heap.size w2.heap.size wh B0 d0 l0 B1 d1 l1 B2 d2 l2 _ _ _ _ _ _ _ _ _ _ _ _ _ _ _ _ _ _ _ _ _ _ _ _ _ _ _ _ _ _ _ _ _ _ _ _ _ _ _ _ _ _ _ _ _ _ _ _ _ _ _ _ _ _ _ _ _ _ _ _ _ _ _ _ _ _ _ _ _ _ _ _ _ _ _ _ _ _ _ rT rF rH rM rB kt kb HTT HFF HHH HMM HBB HNT HNF HNH HNM HNB HPwh hltwh HC0 HC1 HC2 hd0 hd1 hd2 (Lib.hid ?_)
  rintro wi v6 v93 v94 v95 v96 v97 v98 v99 v100 v101 v102 v103 ⟨RA, RN, RC, gL, rfl, HD, HI, HN⟩
  go_wp2_with fail
  go_loopw [7, 8, 9, 10] (fun s7 _ _ _ wl => ∃ j : Nat, j ≤ 5 ∧ s7 = .int .i64 (j : Int) ∧ Hid (KI RA RN RC gL wh.heap.size wh (j * 3) wl)) (fun s7 _ _ _ _ => 5 - (intOf s7).toNat)
  case atStart => exact ⟨0, Nat.zero_le _, rfl, HI⟩
  case round =>
    obtain ⟨j, hj, rfl, HJ⟩ := hrel
    by_cases hlt : j < 5
    · have hltz : (j : Int) < 5 := by omega
      go_wp2_with fail
      go_loopw [8] (fun s8 wm1 => ∃ k : Nat, k ≤ RN (j * 3) ∧ s8 = .int .i64 (k : Int) ∧ Hid (KI RA RN RC gL wh.heap.size wh (j * 3) wm1)) (fun s8 _ => RN (j * 3) - (intOf s8).toNat)
      case atStart => exact ⟨0, Nat.zero_le _, rfl, HJ⟩
      case round =>
        obtain ⟨k, hk, rfl, HK1⟩ := hrel
        have kc := (HK1.out.cellL (j * 3) (by omega) (by omega)).1
        have hNq := HN.out (j * 3) (by omega)
        by_cases hkn : k < RN (j * 3)
        · have hkz : (k : Int) < (RN (j * 3) : Int) := by omega
          obtain ⟨g, hA, ⟨u, hu⟩, hf, hset⟩ := HK1.out.mark35 HD.out (j * 3) (by omega) (by omega) (by omega) k hkn
          rw [hA] at kc
          have HSET := Lib.hid hset
          clear hset hA
          go_wp2_with fail
          refine ⟨⟨k + 1, by omega, by go_num, ?_⟩, by simp [intOf]; omega⟩
          exact HSET.out _
        · have hkz : ¬ (k : Int) < (RN (j * 3) : Int) := by omega
          obtain rfl : k = RN (j * 3) := by omega
          go_wp2_with fail
          go_loopw [9] (fun s9 wm2 => ∃ k : Nat, k ≤ RN (j * 3 + 1) ∧ s9 = .int .i64 (k : Int) ∧ Hid (KI RA RN RC gL wh.heap.size wh (j * 3) wm2)) (fun s9 _ => RN (j * 3 + 1) - (intOf s9).toNat)
          case atStart => exact ⟨0, Nat.zero_le _, rfl, HK1⟩
          case round =>
            obtain ⟨k, hk, rfl, HK2⟩ := hrel
            have kc := (HK2.out.cellL (j * 3 + 1) (by omega) (by omega)).1
            have hNq := HN.out (j * 3 + 1) (by omega)
            by_cases hkn : k < RN (j * 3 + 1)
            · have hkz : (k : Int) < (RN (j * 3 + 1) : Int) := by omega
              obtain ⟨g, hA, ⟨u, hu⟩, hf, hset⟩ := HK2.out.mark35 HD.out (j * 3 + 1) (by omega) (by omega) (by omega) k hkn
              rw [hA] at kc
              have HSET := Lib.hid hset
              clear hset hA
              go_wp2_with fail
              refine ⟨⟨k + 1, by omega, by go_num, ?_⟩, by simp [intOf]; omega⟩
              exact HSET.out _
            · have hkz : ¬ (k : Int) < (RN (j * 3 + 1) : Int) := by omega
              obtain rfl : k = RN (j * 3 + 1) := by omega
              go_wp2_with fail
              go_loopw [10] (fun s10 wm3 => ∃ k : Nat, k ≤ RN (j * 3 + 2) ∧ s10 = .int .i64 (k : Int) ∧ Hid (KI RA RN RC gL wh.heap.size wh (j * 3) wm3)) (fun s10 _ => RN (j * 3 + 2) - (intOf s10).toNat)
              case atStart => exact ⟨0, Nat.zero_le _, rfl, HK2⟩
              case round =>
                obtain ⟨k, hk, rfl, HK3⟩ := hrel
                have kc := (HK3.out.cellL (j * 3 + 2) (by omega) (by omega)).1
                have hNq := HN.out (j * 3 + 2) (by omega)
                by_cases hkn : k < RN (j * 3 + 2)
                · have hkz : (k : Int) < (RN (j * 3 + 2) : Int) := by omega
                  obtain ⟨g, hA, ⟨u, hu⟩, hf, hset⟩ := HK3.out.mark37 HD.out (j * 3 + 2) (by omega) (by omega) (by omega) k hkn
                  rw [hA] at kc
                  have HSET := Lib.hid hset
                  clear hset hA
                  go_wp2_with fail
                  refine ⟨⟨k + 1, by omega, by go_num, ?_⟩, by simp [intOf]; omega⟩
                  exact HSET.out _
                · have hkz : ¬ (k : Int) < (RN (j * 3 + 2) : Int) := by omega
                  obtain rfl : k = RN (j * 3 + 2) := by omega
                  have kc0 := (HK3.out.cellL (j * 3) (by omega) (by omega)).1
                  obtain ⟨y1, hy1, hr1⟩ := HK3.out.r35 (j * 3) (by omega) (by omega) (by omega)
                  have HR1_ := Lib.hid hr1
                  clear hr1
                  have hNq1 := HN.out (j * 3) (by omega)
                  have HLJ := Lib.hid HK3.out.low.size
                  go_wp2_with (first
                    | ((with_reducible refine gate_builtin (b := .append) (xs := #[.tmp 160, .tmp 162]) rfl ?_); at_builtin;
                         go_loud (refine Kd.R_append k35 (w0 := wr) wh.heap.size rfl (.tmp 160) (.tmp 162) 27 35 (.agg #[(.int .i64 0), (.int .i64 0), (.int .i64 0), (.int .i64 0), (.int .i64 0)]) 40 rfl Try.underlying27 info35 rfl (by decide) (by omega) (.slice (RA (j * 3)) (RN (j * 3)) (RC (j * 3))) y1 ⟨93, 0, 0, 0, 0⟩ [.int .i64 93, .int .i64 0, .int .i64 0, .int .i64 0, .int .i64 0] (fun _ => True) (fun _ => False) rfl rfl (k35_mkM _ _ _ ⟨93, 0, 0, 0, 0⟩) (fun _ hk => hk.elim) (fun _ _ => trivial) (Kd.R_mono HR1_.out (fun _ _ => trivial)) (Below.refl _ _) HLJ.out (by omega) ?_);
                         intro v1 x1 ho1 hb1 hg1 hat1;
                         obtain ⟨E1, f1, e1⟩ := Kd.R_slice ho1; rw [List.length_append, List.length_singleton, hy1] at e1; subst e1;
                         obtain ⟨kp1, fp1, hp1⟩ := HK3.out.push HD.out (by omega) hg1 hb1;
                         have HI1 := Lib.hid (hp1 (.slice E1 (RN (j * 3) + 1) f1));
                         have HL1 := Lib.hid HI1.out.low.size;
                         have k1n := (HI1.out.cellL (j * 3 + 1) (by omega) (by omega)).1;
                         obtain ⟨y2, hy2, hr2⟩ := HI1.out.r35 (j * 3 + 1) (by omega) (by omega) (by omega);
                         have HR2_ := Lib.hid hr2; clear hr2;
                         have hNq2 := HN.out (j * 3 + 1) (by omega);
                         clear ho1 hb1 hg1 hat1 hp1)
                    | ((with_reducible refine gate_builtin (b := .append) (xs := #[.tmp 170, .tmp 172]) rfl ?_); at_builtin;
                         go_loud (refine Kd.R_append k35 (w0 := (x1.setCell ⟨gL, j * 3, none⟩ (.slice E1 (RN (j * 3) + 1) f1))) wh.heap.size rfl (.tmp 170) (.tmp 172) 27 35 (.agg #[(.int .i64 0), (.int .i64 0), (.int .i64 0), (.int .i64 0), (.int .i64 0)]) 40 rfl Try.underlying27 info35 rfl (by decide) (by omega) (.slice (RA (j * 3 + 1)) (RN (j * 3 + 1)) (RC (j * 3 + 1))) y2 ⟨92, 0, 0, 0, 0⟩ [.int .i64 92, .int .i64 0, .int .i64 0, .int .i64 0, .int .i64 0] (fun _ => True) (fun _ => False) rfl (show Value.slice (some ⟨x1.heap.size, 0, none⟩) 1 1 = _ by simp) (k35_mkM _ _ _ ⟨92, 0, 0, 0, 0⟩) (fun _ hk => hk.elim) (fun _ _ => trivial) (Kd.R_mono HR2_.out (fun _ _ => trivial)) (Below.refl _ _) HL1.out (by omega) ?_);
                         intro v2 x2 ho2 hb2 hg2 hat2;
                         obtain ⟨E2, f2, e2⟩ := Kd.R_slice ho2; rw [List.length_append, List.length_singleton, hy2] at e2; subst e2;
                         obtain ⟨kp2, fp2, hp2⟩ := HI1.out.push HD.out (by omega) hg2 hb2;
                         have HI2 := Lib.hid (hp2 (.slice E2 (RN (j * 3 + 1) + 1) f2));
                         have HL2 := Lib.hid HI2.out.low.size;
                         have k2n := (HI2.out.cellL (j * 3 + 2) (by omega) (by omega)).1;
                         obtain ⟨y3, hy3, hr3⟩ := HI2.out.r37 (j * 3 + 2) (by omega) (by omega) (by omega);
                         have HR3_ := Lib.hid hr3; clear hr3;
                         have hNq3 := HN.out (j * 3 + 2) (by omega);
                         clear ho2 hb2 hg2 hat2 hp2)
                    | ((with_reducible refine gate_builtin (b := .append) (xs := #[.tmp 180, .tmp 182]) rfl ?_); at_builtin;
                         go_loud (refine Kd.R_append k37 (w0 := (x2.setCell ⟨gL, j * 3 + 1, none⟩ (.slice E2 (RN (j * 3 + 1) + 1) f2))) wh.heap.size rfl (.tmp 180) (.tmp 182) 28 37 (.agg #[(.int .i64 0), (.int .i64 0)]) 16 rfl Try.underlying28 info37 rfl (by decide) (by omega) (.slice (RA (j * 3 + 2)) (RN (j * 3 + 2)) (RC (j * 3 + 2))) y3 ⟨91, 0⟩ [.int .i64 91, .int .i64 0] (fun _ => True) (fun _ => False) rfl (show Value.slice (some ⟨x2.heap.size, 0, none⟩) 1 1 = _ by simp) (k37_mkM _ _ _ ⟨91, 0⟩) (fun _ hk => hk.elim) (fun _ _ => trivial) (Kd.R_mono HR3_.out (fun _ _ => trivial)) (Below.refl _ _) HL2.out (by omega) ?_);
                         intro v3 x3 ho3 hb3 hg3 hat3;
                         obtain ⟨E3, f3, e3⟩ := Kd.R_slice ho3; rw [List.length_append, List.length_singleton, hy3] at e3; subst e3;
                         obtain ⟨kp3, fp3, hp3⟩ := HI2.out.push HD.out (by omega) hg3 hb3;
                         have HI3 := Lib.hid (hp3 (.slice E3 (RN (j * 3 + 2) + 1) f3));
                         have HL3 := Lib.hid HI3.out.low.size;
                         clear ho3 hb3 hg3 hat3 hp3))
                  refine ⟨⟨j + 1, by omega, by go_num, ?_⟩, by simp [intOf]; omega⟩
                  have e : (j + 1) * 3 = j * 3 + 3 := by omega
                  rw [e]
                  exact HI3.out
    · have hlz : ¬ (j : Int) < 5 := by omega
      obtain rfl : j = 5 := by omega
      have HGS := Lib.hid ((HJ.out.low.block w2.heap.size hltwh).trans HPwh.out)
      have HLW := Lib.hid HJ.out.low
      have hzr := HJ.out.low.size
      obtain ⟨ga, ca, ea, hba, hla, _, _, _, _⟩ := R_shape HK0.out (Nat.succ_pos _) (by decide)
      obtain ⟨gb, cb, eb, hbb, hlb, _, _, _, _⟩ := R_shape HK1.out (Nat.succ_pos _) (by decide)
      obtain ⟨gc, cc, ec, hbc, hlc, _, _, _, _⟩ := R_shape HOwh.out (Nat.succ_pos _) (by decide)
      subst ea eb ec
      have M0 : Hid (wr.cell? ⟨ga, l0.length * 5, none⟩ = some (.int .i64 99)) := by
        obtain ⟨adx, eA, q, _⟩ := at_T35 (Kd.R_reads' HK0.out).2.2 (l0.length : Int) (by omega) (by rw [List.length_append, List.length_singleton]; omega)
        injection eA with eA
        subst eA
        rw [show rd_T35 (l0 ++ [⟨99, 0, 0, 0, 0⟩]) (l0.length : Int) = ⟨99, 0, 0, 0, 0⟩ by simp [rd_T35]] at q
        simp only [Int.toNat_natCast, Addr.add_lit, Nat.zero_add] at q
        exact (World.cell?_of_block (a := ⟨ga, l0.length * 5, none⟩) (HLW.out.block ga hla)).trans q
      have M1 : Hid (wr.cell? ⟨gb, l1.length * 5, none⟩ = some (.int .i64 98)) := by
        obtain ⟨adx, eA, q, _⟩ := at_T35 (Kd.R_reads' HK1.out).2.2 (l1.length : Int) (by omega) (by rw [List.length_append, List.length_singleton]; omega)
        injection eA with eA
        subst eA
        rw [show rd_T35 (l1 ++ [⟨98, 0, 0, 0, 0⟩]) (l1.length : Int) = ⟨98, 0, 0, 0, 0⟩ by simp [rd_T35]] at q
        simp only [Int.toNat_natCast, Addr.add_lit, Nat.zero_add] at q
        exact (World.cell?_of_block (a := ⟨gb, l1.length * 5, none⟩) (HLW.out.block gb hlb)).trans q
      have M2 : Hid (wr.cell? ⟨gc, l2.length * 2, none⟩ = some (.int .i64 97)) := by
        obtain ⟨adx, eA, q, _⟩ := at_T37 (Kd.R_reads' HOwh.out).2.2 (l2.length : Int) (by omega) (by rw [List.length_append, List.length_singleton]; omega)
        injection eA with eA
        subst eA
        rw [show rd_T37 (l2 ++ [⟨97, 0⟩]) (l2.length : Int) = ⟨97, 0⟩ by simp [rd_T37]] at q
        simp only [Int.toNat_natCast, Addr.add_lit, Nat.zero_add] at q
        exact (World.cell?_of_block (a := ⟨gc, l2.length * 2, none⟩) (HLW.out.block gc hlc)).trans q
      have HWW : Hid (Below w.heap.size w wr) := (HB2.out.trans (HBwh.out.mono (by omega))).trans (HLW.out.mono (by omega))
      have g0 := blk_cell HGS.out 0
      have g1 := blk_cell HGS.out 1
      have g2 := blk_cell HGS.out 2
      simp only [List.getElem?_toArray, List.getElem?_cons_zero, List.getElem?_cons_succ] at g0 g1 g2
      have hur := (World.cell?_of_block (a := ⟨w.heap.size, 0, none⟩) (HLW.out.block w.heap.size (by omega))).trans huwh
      have r0 := (World.cell?_of_block (HWW.out.block _ hadl)).trans Q0.out
      have r1 := (World.cell?_of_block (a := ⟨(ad.add (i * 3)).block, (ad.add (i * 3)).off + 1, none⟩) (HWW.out.block (ad.add (i * 3)).block hadl)).trans Q1.out
      have r2 := (World.cell?_of_block (a := ⟨(ad.add (i * 3)).block, (ad.add (i * 3)).off + 2, none⟩) (HWW.out.block (ad.add (i * 3)).block hadl)).trans Q2.out
      have HALL := Lib.hid (show _ ∧ _ ∧ _ ∧ _ ∧ _ ∧ _ ∧ _ ∧ _ ∧ _ ∧ _ from ⟨g0, g1, g2, hur, r0, r1, r2, M0.out, M1.out, M2.out⟩)
      clear r0 r1 r2 hur
      go_wp2_with fail
      refine wp_reg4 31 (by kernel_rfl) ?_
      refine reg31 _ _ ad bs.length c i w.heap.size w2.heap.size ga gb gc wr d0 l0 d1 l1 d2 l2 A0 c0 A1 c1 A2 c2 _ _ _ _ _ _ _ _ _ _ _ _ _ _ _ _ _ _ _ _ _ _ _ _ _ _ _ _ _ _ _ _ _ _ _ _ _ _ _ _ _ _ _ _ _ _ _ _ _ _ _ _ _ _ _ _ _ _ _ _ _ _ _ _ _ _ _ _ _ _ _ _ _ _ _ _ _ _ _ _ _ _ _ _ _ _ _ _ _ _ _ _ _ _ _ _ _ _ _ _ _ _ _ _ _ _ _ _ _ _ _ _ _ _ _ _ _ _ _ _ _ _ _ _ _ _ _ _ _ _ _ _ _ _ _ _ _ _ _ _ _ _ _ _ _ _ _ _ _ _ _ _ _ _ _ _ _ _ _ _ _ _ _ _ _ _ _ _ _ _ _ _ _ _ _ _ _ _ _ _ _ _ _ _ _ _ hs0 hiz hn0 hn1 hn2 hd0 hd1 hd2 (by omega) (by omega) (by omega) (by omega) (by omega) (by omega) HALL.out (Lib.hid (Kd.C_below HC0.out HLW.out)) (Lib.hid (Kd.C_below HC1.out HLW.out)) (Lib.hid (Kd.C_below HC2.out HLW.out)) (Lib.hid (Kd.C_below R0.out HWW.out)) (Lib.hid (Kd.C_below R1.out HWW.out)) (Lib.hid (Kd.C_below R2.out HWW.out)) m0 m1 m2 ks HSM (Lib.hid ?_)
      rintro x9 v195 v196 v197 v198 v199 v200 v201 v202 v203 v204 v205 v206 v207 v208 v209 v210 v211 v212 v213 v214 v215 v216 v217 v218 v219 v220 v221 v222 v223 v224 v225 v226 v227 v228 v229 v230 v231 v232 v233 v234 v235 v236 v237 HB9
      go_wp2_with fail
      go_ret
      exact ⟨by first | rfl | simp, HWW.out.trans (HB9.out.mono (by omega))⟩
end Go.Proofs.Ytedghbjmhcgilaa.A
end
