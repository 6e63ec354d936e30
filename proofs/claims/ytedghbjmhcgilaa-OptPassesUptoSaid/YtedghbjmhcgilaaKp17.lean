import Derived.Deep.DeepCutAuto
import Derived.Lib.Hide
import Derived.OwnWalk
import Derived.Test.YtedghbjmhcgilaaKp15
import Derived.Test.YtedghbjmhcgilaaKp16
set_option linter.unusedVariables false
set_option linter.unusedSimpArgs false
section
namespace Go.Proofs.Ytedghbjmhcgilaa.A
open Go.RowKit Go.Shelf Go.Proofs.YtedghbjmhcgilaaW.PrintWords Go.Proofs.YtedghbjmhcgilaaW.PrintLast Go.Proofs.YtedghbjmhcgilaaW.PrintMore
open Go.Proofs.Ytedghbjmhcgilaa.POpt
set_option maxRecDepth 100000 in
set_option maxHeartbeats 4000000 in
theorem dec_calls (bs : List S30) (A : Option Addr) (cA : Nat) (A0 : Option Addr) (c0 : Nat) (l : List S35) (A1 : Option Addr) (c1 : Nat) (l1 : List S35) (A2 : Option Addr) (c2 : Nat) (r : List S37) (w : World)
    (hr : Kd.C k30 w A bs.length bs) (hc : bs.length ≤ cA) (hr0 : Kd.C k35 w A0 l.length l) (hr2 : Kd.C k37 w A2 r.length r) (hl : l.length ≤ 35184372088832) (hrl : r.length ≤ 35184372088832) :
    Calls Try.prog 31 #[.agg #[.slice A bs.length cA], .agg #[.slice A0 l.length c0, .slice A1 l1.length c1, .slice A2 r.length c2]] w fun e w' => e = .returned (.bool (decB bs l r)) ∧ Below w.heap.size w w' := by
  have HR := Lib.hid hr
  have HR0 := Lib.hid hr0
  have HR2 := Lib.hid hr2
  have HB0 : Hid (Below w.heap.size w ((w.alloc (.cells #[.slice A bs.length cA] 24)).alloc (.cells #[.slice A0 l.length c0, .slice A1 l1.length c1, .slice A2 r.length c2] 30))) := ((Below.refl _ _).alloc (Nat.le_refl _) _).alloc (by simp) _
  have hb1 : ((w.alloc (.cells #[.slice A bs.length cA] 24)).alloc (.cells #[.slice A0 l.length c0, .slice A1 l1.length c1, .slice A2 r.length c2] 30)).heap[w.heap.size]? = some (.cells #[.slice A bs.length cA] 24 (0, 0)) := bk_a (blk_new _ _) _
  have hb2 : ((w.alloc (.cells #[.slice A bs.length cA] 24)).alloc (.cells #[.slice A0 l.length c0, .slice A1 l1.length c1, .slice A2 r.length c2] 30)).heap[w.heap.size + 1]? = some (.cells #[.slice A0 l.length c0, .slice A1 l1.length c1, .slice A2 r.length c2] 30 (0, 0)) := by
    have := blk_new (w.alloc (.cells #[.slice A bs.length cA] 24)) (.cells #[.slice A0 l.length c0, .slice A1 l1.length c1, .slice A2 r.length c2] 30); simpa using this
  have BX1 := Lib.hid hb1
  have BX2 := Lib.hid hb2
  clear hr hr0 hr2 hb1 hb2
  by_cases hn : l.length = 0
  case pos =>
    obtain rfl : l = [] := List.eq_nil_of_length_eq_zero hn
    have e : decB bs [] r = false := by unfold decB; simp
    have HE := Lib.hid e
    clear e hn
    go_enter Try.func31, Try.ntmps31
    go_wp2_with fail
    go_ret
    exact ⟨by rw [HE.out]; rfl, HB0.out⟩
  have t0 : ((l.length : Int) == 0) = false := beq_eq_false_iff_ne.mpr (by omega)
  have hpos : 0 < l.length := by omega
  have tn : (l = []) = False := by apply eq_false; intro e; rw [e] at hpos; exact absurd hpos (by decide)
  clear hn
  obtain ⟨ad, eA, x0, _⟩ := at_T35 HR0.out (0 : Int) (by omega) (by omega)
  subst eA
  obtain ⟨ad2, eA2, y0, _⟩ := at_T35 HR0.out ((l.length - 1 : Nat) : Int) (by omega) (by omega)
  injection eA2 with eA2
  subst eA2
  rw [rd35] at y0
  have e00 : rdQ l (0 : Int) = at5 l 0 := rfl
  rw [e00] at x0
  simp only [Int.toNat_natCast] at y0
  have ez : ad.add ((0 : Int).toNat * 5) = ad := by simp [Addr.add]
  rw [ez] at x0
  clear ez
  have hadl0 := World.block_lt_of_cell? _ _ x0
  have hadl := World.block_lt_of_cell? _ _ y0
  have ew : IntKind.i64.wrap ((l.length : Int) - 1) = ((l.length - 1 : Nat) : Int) := by rw [i64_w, w64i (by omega)]; omega
  have HHD : Hid ((at5 l (l.length - 1)).f0 ≠ 4 ∨ (at5 l 0).f0 ≠ 1 → decB bs l r = false) := by
    intro h
    unfold decB
    rcases h with h | h
    · simp [h]
    · simp [h]
  by_cases h4 : (at5 l (l.length - 1)).f0 = 4
  case neg =>
    have HE := Lib.hid (HHD.out (.inl h4))
    have t4 : ((at5 l (l.length - 1)).f0 != 4) = true := bne_iff_ne.mpr h4
    clear h4
    generalize (at5 l (l.length - 1)).f0 = v4 at y0 t4
    go_enter Try.func31, Try.ntmps31
    go_wp2_with fail
    go_ret
    exact ⟨by rw [HE.out]; rfl, HB0.out⟩
  have t4 : ((at5 l (l.length - 1)).f0 != 4) = false := by rw [h4]; rfl
  rw [h4] at y0
  clear t4
  by_cases h1 : (at5 l 0).f0 = 1
  case neg =>
    have HE := Lib.hid (HHD.out (.inr h1))
    have t1 : ((at5 l 0).f0 != 1) = true := bne_iff_ne.mpr h1
    clear h1
    generalize (at5 l 0).f0 = v1 at x0 t1
    go_enter Try.func31, Try.ntmps31
    go_wp2_with fail
    go_ret
    exact ⟨by rw [HE.out]; rfl, HB0.out⟩
  rw [h1] at x0
  have H14 := Lib.hid (And.intro h4 h1)
  clear h4 h1
  go_enter Try.func31, Try.ntmps31
  go_wp2_with fail
  clear x0 y0
  go_loopw [6, 7, 8] (fun s6 s7 s8 wl => ∃ (i : Nat) (J L : Int), i ≤ l.length ∧ s6 = .int .i64 J ∧ s7 = .int .i64 L ∧ s8 = .int .i64 (i : Int) ∧ 0 ≤ J ∧ J ≤ i ∧ Hid (jl l l.length 0 0 0 = jl l (l.length - i) i J L) ∧ Hid (∀ j, j < i → okD bs l.length j (at5 l j) = true) ∧ Hid (Below w.heap.size w wl) ∧ Hid (wl.heap[w.heap.size]? = some (.cells #[.slice A bs.length cA] 24 (0, 0))) ∧ Hid (wl.heap[w.heap.size + 1]? = some (.cells #[.slice (some ad) l.length c0, .slice A1 l1.length c1, .slice A2 r.length c2] 30 (0, 0)))) (fun _ _ s8 _ => l.length - (intOf s8).toNat)
  case atStart => exact ⟨0, 0, 0, by omega, rfl, rfl, rfl, by omega, by omega, rfl, fun j hj => by omega, HB0.out, BX1.out, BX2.out⟩
  case round =>
    clear hadl hadl0 ew HHD
    obtain ⟨i, J, L, hi, rfl, rfl, rfl, hJ0, hJi, HJ, HOK, HB, G1, G2⟩ := hrel
    have gl1 := blk_lt G1.out
    have gl2 := blk_lt G2.out
    have p1 := bk_c G1.out 0
    have p2 := bk_c G2.out 0
    have p4 := bk_c G2.out 2
    simp only [List.getElem?_toArray, List.getElem?_cons_zero, List.getElem?_cons_succ] at p1 p2 p4
    by_cases hlt : i < l.length
    case neg =>
      have hin : i = l.length := by omega
      subst hin
      have hdec : decB bs l r = ((decide (J > 0) == decide (0 < r.length)) && rowsB l.length L r) := by
        have h1 : (List.range l.length).all (fun j => okD bs l.length j (at5 l j)) = true := List.all_eq_true.2 (fun j hj => HOK.out j (List.mem_range.1 hj))
        unfold decB
        rw [h1, HJ.out, Nat.sub_self]
        simp [jl, H14.out.1, H14.out.2, hpos]
      have HD := Lib.hid hdec
      have htn : ¬ (l.length : Int) < (l.length : Int) := by omega
      clear hdec hlt
      by_cases hmm : decide (J > 0) = decide (0 < r.length)
      case neg =>
        have HF : Hid (decB bs l r = false) := by
          rw [HD.out]
          have : (decide (J > 0) == decide (0 < r.length)) = false := beq_eq_false_iff_ne.mpr hmm
          show ((decide (J > 0) == decide (0 < r.length)) && rowsB l.length L r) = false
          rw [this]; rfl
        by_cases hJ : J > 0
        · obtain rfl : r = [] := by
            false_or_by_contra
            rename_i hne
            have : 0 < r.length := List.length_pos_iff.2 hne
            exact hmm (by simp [hJ, this])
          clear hmm
          go_wp2_with fail
          go_ret
          exact ⟨by rw [HF.out]; rfl, HB.out⟩
        · have hr0 : 0 < r.length := by
            false_or_by_contra
            rename_i hne
            exact hmm (by simp [hJ, hne])
          have hr1 : (0 : Int) < (r.length : Int) := by omega
          have hrn : (r = []) = False := by apply eq_false; intro e; rw [e] at hr0; exact absurd hr0 (by decide)
          clear hmm hr0
          go_wp2_with fail
          go_ret
          exact ⟨by rw [HF.out]; rfl, HB.out⟩
      case pos =>
        have HD2 : Hid (decB bs l r = rowsB l.length L r) := by
          rw [HD.out]
          show ((decide (J > 0) == decide (0 < r.length)) && rowsB l.length L r) = _
          rw [hmm]; simp
        have hloop : True := trivial
        by_cases hr0 : 0 < r.length
        · have hJ : J > 0 := by simpa [hr0] using hmm
          have hr1 : (0 : Int) < (r.length : Int) := by omega
          have hrn : (r = []) = False := by apply eq_false; intro e; rw [e] at hr0; exact absurd hr0 (by decide)
          clear hmm
          go_wp2_with fail
          clear hr1 hrn hJ hr0
          go_loopw [10] (fun s10 wl => ∃ k : Nat, k ≤ r.length ∧ s10 = .int .i64 (k : Int) ∧ Hid (∀ j, j < k → (N.isTagB (at2 r j).f0 && (decide (L < (at2 r j).f1) && decide ((at2 r j).f1 < l.length))) = true) ∧ Hid (Below w.heap.size w wl) ∧ Hid (wl.heap[w.heap.size + 1]? = some (.cells #[.slice (some ad) l.length c0, .slice A1 l1.length c1, .slice A2 r.length c2] 30 (0, 0)))) (fun s10 _ => r.length - (intOf s10).toNat)
          case atStart => exact ⟨0, by omega, rfl, fun j hj => by omega, HB.out, G2.out⟩
          case round =>
            clear p1 p2 p4 gl1 gl2 HB G1 G2
            obtain ⟨k, hk, rfl, HA2, HB, G2⟩ := hrel
            have gl2 := blk_lt G2.out
            have p4 := bk_c G2.out 2
            simp only [List.getElem?_toArray, List.getElem?_cons_zero, List.getElem?_cons_succ] at p4
            by_cases hkl : k < r.length
            case neg =>
              have HT : Hid (decB bs l r = true) := by
                rw [HD2.out]
                unfold rowsB
                rw [List.all_eq_true]
                intro y hy
                obtain ⟨j, hj, rfl⟩ := List.mem_iff_getElem.1 hy
                have := HA2.out j (by omega)
                rwa [at2_lt hj] at this
              have hkz : ¬ (k : Int) < (r.length : Int) := by omega
              go_wp2_with fail
              go_ret
              exact ⟨by rw [HT.out]; rfl, HB.out⟩
            have hkz : (k : Int) < (r.length : Int) := by omega
            obtain ⟨ad3, eA3, q0, q1⟩ := at_T37 (Kd.C_below HR2.out HB.out) (k : Int) (by omega) (by omega)
            subst eA3
            rw [rd37] at q0 q1
            simp only [Int.toNat_natCast] at q0 q1
            have hgx := World.block_lt_of_cell? _ _ q0
            have HBAD : Hid ((N.isTagB (at2 r k).f0 && (decide (L < (at2 r k).f1) && decide ((at2 r k).f1 < l.length))) = false → decB bs l r = false) := by
              intro h
              rw [HD2.out]
              unfold rowsB
              rw [List.all_eq_false]
              exact ⟨r[k], List.getElem_mem hkl, by rw [at2_lt hkl] at h; simp only [h]; decide⟩
            have HGO : Hid ((N.isTagB (at2 r k).f0 && (decide (L < (at2 r k).f1) && decide ((at2 r k).f1 < l.length))) = true → ∀ j, j < k + 1 → (N.isTagB (at2 r j).f0 && (decide (L < (at2 r j).f1) && decide ((at2 r j).f1 < l.length))) = true) := by
              intro h j hj
              by_cases e : j = k
              · subst e; exact h
              · exact HA2.out j (by omega)
            generalize at2 r k = y at q0 q1 HBAD HGO
            cases hT : N.isTagB y.f0
            case false =>
              have HF := Lib.hid (HBAD.out (by rw [hT]; rfl))
              have HTT := Lib.hid hT
              clear hT
              go_wp2_with (go_at_call 53; refine (N.isTag_calls y.f0 _ false HTT.out).mono ?_; rintro e w1 ⟨rfl, ⟨⟨q, rfl⟩⟩⟩)
              go_ret
              exact ⟨by rw [HF.out]; rfl, by repeat (first | exact HB.out | refine pwbd ?_ _)⟩
            have HTT := Lib.hid hT
            clear hT
            by_cases g1 : y.f1 ≤ L
            case pos =>
              have HF := Lib.hid (HBAD.out (by have : ¬ L < y.f1 := by omega
                                               simp [this]))
              go_wp2_with (go_at_call 53; refine (N.isTag_calls y.f0 _ true HTT.out).mono ?_; rintro e w1 ⟨rfl, ⟨⟨q, rfl⟩⟩⟩)
              go_ret
              exact ⟨by rw [HF.out]; rfl, by repeat (first | exact HB.out | refine pwbd ?_ _)⟩
            by_cases g2 : y.f1 ≥ (l.length : Int)
            case pos =>
              have HF := Lib.hid (HBAD.out (by have : ¬ y.f1 < l.length := by omega
                                               simp [this]))
              go_wp2_with (go_at_call 53; refine (N.isTag_calls y.f0 _ true HTT.out).mono ?_; rintro e w1 ⟨rfl, ⟨⟨q, rfl⟩⟩⟩)
              go_ret
              exact ⟨by rw [HF.out]; rfl, by repeat (first | exact HB.out | refine pwbd ?_ _)⟩
            have HG := Lib.hid (HGO.out (by have h1 : L < y.f1 := by omega
                                            have h2 : y.f1 < l.length := by omega
                                            rw [HTT.out]; simp [h1, h2]))
            go_wp2_with (go_at_call 53; refine (N.isTag_calls y.f0 _ true HTT.out).mono ?_; rintro e w1 ⟨rfl, ⟨⟨q, rfl⟩⟩⟩)
            exact ⟨⟨k + 1, by omega, by go_num, HG.out, pwbd HB.out q, bk_N G2.out q⟩, by simp [intOf]; omega⟩
        · obtain rfl : r = [] := List.eq_nil_of_length_eq_zero (by omega)
          have hJ : ¬ J > 0 := by simpa using hmm
          have HT : Hid (decB bs l [] = true) := by rw [HD2.out]; rfl
          clear hmm hr0
          go_wp2_with fail
          go_loopw [10] (fun s10 wl => s10 = .int .i64 0 ∧ wl = wr) (fun s10 _ => 0)
          case atStart => exact ⟨rfl, rfl⟩
          case round =>
            obtain ⟨rfl, rfl⟩ := hrel
            go_wp2_with fail
            go_ret
            exact ⟨by rw [HT.out]; rfl, HB.out⟩
    have hltz : (i : Int) < (l.length : Int) := by omega
    obtain ⟨ad', ead, q0, q1, q2, q3, q4⟩ := at_T35 (Kd.C_below HR0.out HB.out) (i : Int) (by omega) (by omega)
    injection ead with ead
    subst ead
    rw [rd35] at q0 q1 q2 q3 q4
    simp only [Int.toNat_natCast] at q0 q1 q2 q3 q4
    have hgx := World.block_lt_of_cell? _ _ q0
    have HBAD : Hid (okD bs l.length i (at5 l i) = false → decB bs l r = false) := fun h => decB_bad hlt h
    have HGO : Hid (okD bs l.length i (at5 l i) = true → jl l l.length 0 0 0 = jl l (l.length - (i + 1)) (i + 1) (if (at5 l i).f0 = 3 then J + 1 else J) (if (at5 l i).f0 = 3 then (i : Int) else L) ∧ ∀ j, j < i + 1 → okD bs l.length j (at5 l j) = true) := by
      intro h
      refine ⟨?_, fun j hj => ?_⟩
      · rw [HJ.out, show l.length - i = (l.length - (i + 1)) + 1 by omega, jl]
        split <;> rfl
      · by_cases e : j = i
        · subst e; exact h
        · exact HOK.out j (by omega)
    generalize at5 l i = x at q0 q1 q2 q3 q4 HBAD HGO
    have hbx : ((wr.alloc (.cells #[.int .i64 x.f0, .int .i64 x.f1, .int .i64 x.f2, .int .i64 x.f3, .int .i64 x.f4] 35)).heap[wr.heap.size]? = some (.cells #[.int .i64 x.f0, .int .i64 x.f1, .int .i64 x.f2, .int .i64 x.f3, .int .i64 x.f4] 35 (0, 0))) := blk_new wr _
    have BX := Lib.hid hbx
    have HA := Lib.hid (HB.out.alloc HB.out.size (.cells #[.int .i64 x.f0, .int .i64 x.f1, .int .i64 x.f2, .int .i64 x.f3, .int .i64 x.f4] 35))
    clear hbx
    by_cases a1 : x.f0 < 1
    case pos =>
      have HF := Lib.hid (HBAD.out (by cases h_ : okD bs l.length i x with | false => rfl | true => (exfalso; simp only [okD, Bool.and_eq_true, decide_eq_true_eq, Bool.not_eq_true', Bool.and_eq_false_iff, Bool.or_eq_false_iff, decide_eq_false_iff_not, beq_eq_false_iff_ne] at h_; obtain ⟨⟨h1, h2, h3, h4⟩, h5, h6, h7⟩ := h_; first | omega | (exact absurd (h4.symm.trans HN.out) (by decide)))))
      go_wp2_with fail
      go_ret
      exact ⟨by rw [HF.out]; rfl, HA.out⟩
    by_cases a2 : x.f0 > 15
    case pos =>
      have HF := Lib.hid (HBAD.out (by cases h_ : okD bs l.length i x with | false => rfl | true => (exfalso; simp only [okD, Bool.and_eq_true, decide_eq_true_eq, Bool.not_eq_true', Bool.and_eq_false_iff, Bool.or_eq_false_iff, decide_eq_false_iff_not, beq_eq_false_iff_ne] at h_; obtain ⟨⟨h1, h2, h3, h4⟩, h5, h6, h7⟩ := h_; first | omega | (exact absurd (h4.symm.trans HN.out) (by decide)))))
      go_wp2_with fail
      go_ret
      exact ⟨by rw [HF.out]; rfl, HA.out⟩
    by_cases a3 : x.f0 = 1 ∧ (i : Int) > 0
    case pos =>
      have HF := Lib.hid (HBAD.out (by cases h_ : okD bs l.length i x with | false => rfl | true => (exfalso; simp only [okD, Bool.and_eq_true, decide_eq_true_eq, Bool.not_eq_true', Bool.and_eq_false_iff, Bool.or_eq_false_iff, decide_eq_false_iff_not, beq_eq_false_iff_ne] at h_; obtain ⟨⟨h1, h2, h3, h4⟩, h5, h6, h7⟩ := h_; first | omega | (exact absurd (h4.symm.trans HN.out) (by decide)))))
      have t3 : (x.f0 == 1) = true := beq_iff_eq.2 a3.1
      have t4 := a3.2
      clear a3
      go_wp2_with fail
      go_ret
      exact ⟨by rw [HF.out]; rfl, HA.out⟩
    cases hN : numS bs x
    case false =>
      have HN := Lib.hid hN
      clear hN
      by_cases e1 : x.f0 = 1
      · have e0 : ¬ (i : Int) > 0 := fun h => a3 ⟨e1, h⟩
        have t3 : (x.f0 == 1) = true := beq_iff_eq.2 e1
        have HF := Lib.hid (HBAD.out (by cases h_ : okD bs l.length i x with | false => rfl | true => (exfalso; simp only [okD, Bool.and_eq_true, decide_eq_true_eq, Bool.not_eq_true', Bool.and_eq_false_iff, Bool.or_eq_false_iff, decide_eq_false_iff_not, beq_eq_false_iff_ne] at h_; obtain ⟨⟨h1, h2, h3, h4⟩, h5, h6, h7⟩ := h_; first | omega | (exact absurd (h4.symm.trans HN.out) (by decide)))))
        clear a3 e1
        go_wp2_with (first | (go_at_call 52; refine (N.numB_calls bs A cA x.f0 x.f1 x.f2 x.f3 x.f4 _ (Kd.C_below HR.out HA.out) hc).mono ?_; rw [show N.numB bs x.f0 x.f1 x.f2 x.f3 x.f4 = false from HN.out]; rintro e w1 ⟨rfl, hb⟩; have q_ := (hb.block wr.heap.size (by simp)).trans BX.out; have z0 := bk_c q_ 0; have z1 := bk_c q_ 1; have z2 := bk_c q_ 2; have hz1 := blk_lt q_; simp only [List.getElem?_toArray, List.getElem?_cons_zero, List.getElem?_cons_succ] at z0 z1 z2; have HBW := Lib.hid (HA.out.trans (hb.mono (by simp; have := HB.out.size; omega))); have GG1 := Lib.hid ((hb.block _ (by simp; omega)).trans (bk_a G1.out _)); have GG2 := Lib.hid ((hb.block _ (by simp; omega)).trans (bk_a G2.out _)); clear q_ hb))
        go_ret
        exact ⟨by rw [HF.out]; rfl, HBW.out⟩
      · have t3 : (x.f0 == 1) = false := beq_eq_false_iff_ne.mpr e1
        have HF := Lib.hid (HBAD.out (by cases h_ : okD bs l.length i x with | false => rfl | true => (exfalso; simp only [okD, Bool.and_eq_true, decide_eq_true_eq, Bool.not_eq_true', Bool.and_eq_false_iff, Bool.or_eq_false_iff, decide_eq_false_iff_not, beq_eq_false_iff_ne] at h_; obtain ⟨⟨h1, h2, h3, h4⟩, h5, h6, h7⟩ := h_; first | omega | (exact absurd (h4.symm.trans HN.out) (by decide)))))
        clear a3 e1
        go_wp2_with (first | (go_at_call 52; refine (N.numB_calls bs A cA x.f0 x.f1 x.f2 x.f3 x.f4 _ (Kd.C_below HR.out HA.out) hc).mono ?_; rw [show N.numB bs x.f0 x.f1 x.f2 x.f3 x.f4 = false from HN.out]; rintro e w1 ⟨rfl, hb⟩; have q_ := (hb.block wr.heap.size (by simp)).trans BX.out; have z0 := bk_c q_ 0; have z1 := bk_c q_ 1; have z2 := bk_c q_ 2; have hz1 := blk_lt q_; simp only [List.getElem?_toArray, List.getElem?_cons_zero, List.getElem?_cons_succ] at z0 z1 z2; have HBW := Lib.hid (HA.out.trans (hb.mono (by simp; have := HB.out.size; omega))); have GG1 := Lib.hid ((hb.block _ (by simp; omega)).trans (bk_a G1.out _)); have GG2 := Lib.hid ((hb.block _ (by simp; omega)).trans (bk_a G2.out _)); clear q_ hb))
        go_ret
        exact ⟨by rw [HF.out]; rfl, HBW.out⟩
    have HN := Lib.hid hN
    clear hN
    by_cases h2 : x.f0 = 2
    case pos =>
      have t1 : (x.f0 == 1) = false := beq_eq_false_iff_ne.mpr (by omega)
      have t2 : (x.f0 == 2) = true := beq_iff_eq.2 h2
      have t3 : (x.f0 == 3) = false := beq_eq_false_iff_ne.mpr (by omega)
      have t4 : (x.f0 == 4) = false := beq_eq_false_iff_ne.mpr (by omega)
      by_cases g1 : x.f2 ≤ (i : Int)
      case pos =>
        have HF := Lib.hid (HBAD.out (by cases h_ : okD bs l.length i x with | false => rfl | true => (exfalso; simp only [okD, Bool.and_eq_true, decide_eq_true_eq, Bool.not_eq_true', Bool.and_eq_false_iff, Bool.or_eq_false_iff, decide_eq_false_iff_not, beq_eq_false_iff_ne] at h_; obtain ⟨⟨h1, h2, h3, h4⟩, h5, h6, h7⟩ := h_; first | omega | (exact absurd (h4.symm.trans HN.out) (by decide)))))
        clear h2 a3
        go_wp2_with (first | (go_at_call 52; refine (N.numB_calls bs A cA x.f0 x.f1 x.f2 x.f3 x.f4 _ (Kd.C_below HR.out HA.out) hc).mono ?_; rw [show N.numB bs x.f0 x.f1 x.f2 x.f3 x.f4 = true from HN.out]; rintro e w1 ⟨rfl, hb⟩; have q_ := (hb.block wr.heap.size (by simp)).trans BX.out; have z0 := bk_c q_ 0; have z1 := bk_c q_ 1; have z2 := bk_c q_ 2; have hz1 := blk_lt q_; simp only [List.getElem?_toArray, List.getElem?_cons_zero, List.getElem?_cons_succ] at z0 z1 z2; have HBW := Lib.hid (HA.out.trans (hb.mono (by simp; have := HB.out.size; omega))); have GG1 := Lib.hid ((hb.block _ (by simp; omega)).trans (bk_a G1.out _)); have GG2 := Lib.hid ((hb.block _ (by simp; omega)).trans (bk_a G2.out _)); clear q_ hb))
        go_ret
        exact ⟨by rw [HF.out]; rfl, HBW.out⟩
      by_cases g2 : x.f2 ≥ (l.length : Int)
      case pos =>
        have HF := Lib.hid (HBAD.out (by cases h_ : okD bs l.length i x with | false => rfl | true => (exfalso; simp only [okD, Bool.and_eq_true, decide_eq_true_eq, Bool.not_eq_true', Bool.and_eq_false_iff, Bool.or_eq_false_iff, decide_eq_false_iff_not, beq_eq_false_iff_ne] at h_; obtain ⟨⟨h1, h2, h3, h4⟩, h5, h6, h7⟩ := h_; first | omega | (exact absurd (h4.symm.trans HN.out) (by decide)))))
        clear h2 a3
        go_wp2_with (first | (go_at_call 52; refine (N.numB_calls bs A cA x.f0 x.f1 x.f2 x.f3 x.f4 _ (Kd.C_below HR.out HA.out) hc).mono ?_; rw [show N.numB bs x.f0 x.f1 x.f2 x.f3 x.f4 = true from HN.out]; rintro e w1 ⟨rfl, hb⟩; have q_ := (hb.block wr.heap.size (by simp)).trans BX.out; have z0 := bk_c q_ 0; have z1 := bk_c q_ 1; have z2 := bk_c q_ 2; have hz1 := blk_lt q_; simp only [List.getElem?_toArray, List.getElem?_cons_zero, List.getElem?_cons_succ] at z0 z1 z2; have HBW := Lib.hid (HA.out.trans (hb.mono (by simp; have := HB.out.size; omega))); have GG1 := Lib.hid ((hb.block _ (by simp; omega)).trans (bk_a G1.out _)); have GG2 := Lib.hid ((hb.block _ (by simp; omega)).trans (bk_a G2.out _)); clear q_ hb))
        go_ret
        exact ⟨by rw [HF.out]; rfl, HBW.out⟩
      have hgo := HGO.out (by simp only [okD, Bool.and_eq_true, decide_eq_true_eq, Bool.not_eq_true', Bool.and_eq_false_iff, Bool.or_eq_false_iff, decide_eq_false_iff_not, beq_eq_false_iff_ne]; exact ⟨⟨by omega, by omega, by omega, HN.out⟩, by omega, by omega, by omega⟩)
      rw [if_neg (by omega), if_neg (by omega)] at hgo
      have HG := Lib.hid hgo
      clear hgo
      clear h2 a3
      go_wp2_with (first | (go_at_call 52; refine (N.numB_calls bs A cA x.f0 x.f1 x.f2 x.f3 x.f4 _ (Kd.C_below HR.out HA.out) hc).mono ?_; rw [show N.numB bs x.f0 x.f1 x.f2 x.f3 x.f4 = true from HN.out]; rintro e w1 ⟨rfl, hb⟩; have q_ := (hb.block wr.heap.size (by simp)).trans BX.out; have z0 := bk_c q_ 0; have z1 := bk_c q_ 1; have z2 := bk_c q_ 2; have hz1 := blk_lt q_; simp only [List.getElem?_toArray, List.getElem?_cons_zero, List.getElem?_cons_succ] at z0 z1 z2; have HBW := Lib.hid (HA.out.trans (hb.mono (by simp; have := HB.out.size; omega))); have GG1 := Lib.hid ((hb.block _ (by simp; omega)).trans (bk_a G1.out _)); have GG2 := Lib.hid ((hb.block _ (by simp; omega)).trans (bk_a G2.out _)); clear q_ hb))
      exact ⟨⟨i + 1, J, L, by omega, rfl, rfl, by go_num, by omega, by omega, HG.out.1, HG.out.2, HBW.out, GG1.out, GG2.out⟩, by simp [intOf]; omega⟩
    by_cases h3 : x.f0 = 3
    case pos =>
      have t1 : (x.f0 == 1) = false := beq_eq_false_iff_ne.mpr (by omega)
      have t3 : (x.f0 == 3) = true := beq_iff_eq.2 h3
      have t2 : (x.f0 == 2) = false := beq_eq_false_iff_ne.mpr (by omega)
      have t4 : (x.f0 == 4) = false := beq_eq_false_iff_ne.mpr (by omega)
      by_cases g1 : x.f1 ≤ (i : Int)
      case pos =>
        have HF := Lib.hid (HBAD.out (by cases h_ : okD bs l.length i x with | false => rfl | true => (exfalso; simp only [okD, Bool.and_eq_true, decide_eq_true_eq, Bool.not_eq_true', Bool.and_eq_false_iff, Bool.or_eq_false_iff, decide_eq_false_iff_not, beq_eq_false_iff_ne] at h_; obtain ⟨⟨h1, h2, h3, h4⟩, h5, h6, h7⟩ := h_; first | omega | (exact absurd (h4.symm.trans HN.out) (by decide)))))
        clear h2 h3 a3
        go_wp2_with (first | (go_at_call 52; refine (N.numB_calls bs A cA x.f0 x.f1 x.f2 x.f3 x.f4 _ (Kd.C_below HR.out HA.out) hc).mono ?_; rw [show N.numB bs x.f0 x.f1 x.f2 x.f3 x.f4 = true from HN.out]; rintro e w1 ⟨rfl, hb⟩; have q_ := (hb.block wr.heap.size (by simp)).trans BX.out; have z0 := bk_c q_ 0; have z1 := bk_c q_ 1; have z2 := bk_c q_ 2; have hz1 := blk_lt q_; simp only [List.getElem?_toArray, List.getElem?_cons_zero, List.getElem?_cons_succ] at z0 z1 z2; have HBW := Lib.hid (HA.out.trans (hb.mono (by simp; have := HB.out.size; omega))); have GG1 := Lib.hid ((hb.block _ (by simp; omega)).trans (bk_a G1.out _)); have GG2 := Lib.hid ((hb.block _ (by simp; omega)).trans (bk_a G2.out _)); clear q_ hb))
        go_ret
        exact ⟨by rw [HF.out]; rfl, HBW.out⟩
      by_cases g2 : x.f1 ≥ (l.length : Int)
      case pos =>
        have HF := Lib.hid (HBAD.out (by cases h_ : okD bs l.length i x with | false => rfl | true => (exfalso; simp only [okD, Bool.and_eq_true, decide_eq_true_eq, Bool.not_eq_true', Bool.and_eq_false_iff, Bool.or_eq_false_iff, decide_eq_false_iff_not, beq_eq_false_iff_ne] at h_; obtain ⟨⟨h1, h2, h3, h4⟩, h5, h6, h7⟩ := h_; first | omega | (exact absurd (h4.symm.trans HN.out) (by decide)))))
        clear h2 h3 a3
        go_wp2_with (first | (go_at_call 52; refine (N.numB_calls bs A cA x.f0 x.f1 x.f2 x.f3 x.f4 _ (Kd.C_below HR.out HA.out) hc).mono ?_; rw [show N.numB bs x.f0 x.f1 x.f2 x.f3 x.f4 = true from HN.out]; rintro e w1 ⟨rfl, hb⟩; have q_ := (hb.block wr.heap.size (by simp)).trans BX.out; have z0 := bk_c q_ 0; have z1 := bk_c q_ 1; have z2 := bk_c q_ 2; have hz1 := blk_lt q_; simp only [List.getElem?_toArray, List.getElem?_cons_zero, List.getElem?_cons_succ] at z0 z1 z2; have HBW := Lib.hid (HA.out.trans (hb.mono (by simp; have := HB.out.size; omega))); have GG1 := Lib.hid ((hb.block _ (by simp; omega)).trans (bk_a G1.out _)); have GG2 := Lib.hid ((hb.block _ (by simp; omega)).trans (bk_a G2.out _)); clear q_ hb))
        go_ret
        exact ⟨by rw [HF.out]; rfl, HBW.out⟩
      have hgo := HGO.out (by simp only [okD, Bool.and_eq_true, decide_eq_true_eq, Bool.not_eq_true', Bool.and_eq_false_iff, Bool.or_eq_false_iff, decide_eq_false_iff_not, beq_eq_false_iff_ne]; exact ⟨⟨by omega, by omega, by omega, HN.out⟩, by omega, by omega, by omega⟩)
      rw [if_pos h3, if_pos h3] at hgo
      have HG := Lib.hid hgo
      clear hgo
      clear h2 h3 a3
      go_wp2_with (first | (go_at_call 52; refine (N.numB_calls bs A cA x.f0 x.f1 x.f2 x.f3 x.f4 _ (Kd.C_below HR.out HA.out) hc).mono ?_; rw [show N.numB bs x.f0 x.f1 x.f2 x.f3 x.f4 = true from HN.out]; rintro e w1 ⟨rfl, hb⟩; have q_ := (hb.block wr.heap.size (by simp)).trans BX.out; have z0 := bk_c q_ 0; have z1 := bk_c q_ 1; have z2 := bk_c q_ 2; have hz1 := blk_lt q_; simp only [List.getElem?_toArray, List.getElem?_cons_zero, List.getElem?_cons_succ] at z0 z1 z2; have HBW := Lib.hid (HA.out.trans (hb.mono (by simp; have := HB.out.size; omega))); have GG1 := Lib.hid ((hb.block _ (by simp; omega)).trans (bk_a G1.out _)); have GG2 := Lib.hid ((hb.block _ (by simp; omega)).trans (bk_a G2.out _)); clear q_ hb))
      exact ⟨⟨i + 1, J + 1, i, by omega, rfl, rfl, by go_num, by omega, by omega, HG.out.1, HG.out.2, HBW.out, GG1.out, GG2.out⟩, by simp [intOf]; omega⟩
    by_cases h4 : x.f0 = 4
    case pos =>
      have t1 : (x.f0 == 1) = false := beq_eq_false_iff_ne.mpr (by omega)
      have t4 : (x.f0 == 4) = true := beq_iff_eq.2 h4
      have t2 : (x.f0 == 2) = false := beq_eq_false_iff_ne.mpr (by omega)
      have t3 : (x.f0 == 3) = false := beq_eq_false_iff_ne.mpr (by omega)
      by_cases g1 : x.f1 < 0
      case pos =>
        have HF := Lib.hid (HBAD.out (by cases h_ : okD bs l.length i x with | false => rfl | true => (exfalso; simp only [okD, Bool.and_eq_true, decide_eq_true_eq, Bool.not_eq_true', Bool.and_eq_false_iff, Bool.or_eq_false_iff, decide_eq_false_iff_not, beq_eq_false_iff_ne] at h_; obtain ⟨⟨h1, h2, h3, h4⟩, h5, h6, h7⟩ := h_; first | omega | (exact absurd (h4.symm.trans HN.out) (by decide)))))
        clear h2 h3 h4 a3
        go_wp2_with (first | (go_at_call 52; refine (N.numB_calls bs A cA x.f0 x.f1 x.f2 x.f3 x.f4 _ (Kd.C_below HR.out HA.out) hc).mono ?_; rw [show N.numB bs x.f0 x.f1 x.f2 x.f3 x.f4 = true from HN.out]; rintro e w1 ⟨rfl, hb⟩; have q_ := (hb.block wr.heap.size (by simp)).trans BX.out; have z0 := bk_c q_ 0; have z1 := bk_c q_ 1; have z2 := bk_c q_ 2; have hz1 := blk_lt q_; simp only [List.getElem?_toArray, List.getElem?_cons_zero, List.getElem?_cons_succ] at z0 z1 z2; have HBW := Lib.hid (HA.out.trans (hb.mono (by simp; have := HB.out.size; omega))); have GG1 := Lib.hid ((hb.block _ (by simp; omega)).trans (bk_a G1.out _)); have GG2 := Lib.hid ((hb.block _ (by simp; omega)).trans (bk_a G2.out _)); clear q_ hb))
        go_ret
        exact ⟨by rw [HF.out]; rfl, HBW.out⟩
      by_cases g2 : x.f1 ≥ (l.length : Int)
      case pos =>
        have HF := Lib.hid (HBAD.out (by cases h_ : okD bs l.length i x with | false => rfl | true => (exfalso; simp only [okD, Bool.and_eq_true, decide_eq_true_eq, Bool.not_eq_true', Bool.and_eq_false_iff, Bool.or_eq_false_iff, decide_eq_false_iff_not, beq_eq_false_iff_ne] at h_; obtain ⟨⟨h1, h2, h3, h4⟩, h5, h6, h7⟩ := h_; first | omega | (exact absurd (h4.symm.trans HN.out) (by decide)))))
        clear h2 h3 h4 a3
        go_wp2_with (first | (go_at_call 52; refine (N.numB_calls bs A cA x.f0 x.f1 x.f2 x.f3 x.f4 _ (Kd.C_below HR.out HA.out) hc).mono ?_; rw [show N.numB bs x.f0 x.f1 x.f2 x.f3 x.f4 = true from HN.out]; rintro e w1 ⟨rfl, hb⟩; have q_ := (hb.block wr.heap.size (by simp)).trans BX.out; have z0 := bk_c q_ 0; have z1 := bk_c q_ 1; have z2 := bk_c q_ 2; have hz1 := blk_lt q_; simp only [List.getElem?_toArray, List.getElem?_cons_zero, List.getElem?_cons_succ] at z0 z1 z2; have HBW := Lib.hid (HA.out.trans (hb.mono (by simp; have := HB.out.size; omega))); have GG1 := Lib.hid ((hb.block _ (by simp; omega)).trans (bk_a G1.out _)); have GG2 := Lib.hid ((hb.block _ (by simp; omega)).trans (bk_a G2.out _)); clear q_ hb))
        go_ret
        exact ⟨by rw [HF.out]; rfl, HBW.out⟩
      by_cases g3 : x.f1 > 0
      case neg =>
        have hgo := HGO.out (by simp only [okD, Bool.and_eq_true, decide_eq_true_eq, Bool.not_eq_true', Bool.and_eq_false_iff, Bool.or_eq_false_iff, decide_eq_false_iff_not, beq_eq_false_iff_ne]; exact ⟨⟨by omega, by omega, by omega, HN.out⟩, by omega, by omega, by omega⟩)
        rw [if_neg (by omega), if_neg (by omega)] at hgo
        have HG := Lib.hid hgo
        clear hgo
        clear h2 h3 h4 a3
        go_wp2_with (first | (go_at_call 52; refine (N.numB_calls bs A cA x.f0 x.f1 x.f2 x.f3 x.f4 _ (Kd.C_below HR.out HA.out) hc).mono ?_; rw [show N.numB bs x.f0 x.f1 x.f2 x.f3 x.f4 = true from HN.out]; rintro e w1 ⟨rfl, hb⟩; have q_ := (hb.block wr.heap.size (by simp)).trans BX.out; have z0 := bk_c q_ 0; have z1 := bk_c q_ 1; have z2 := bk_c q_ 2; have hz1 := blk_lt q_; simp only [List.getElem?_toArray, List.getElem?_cons_zero, List.getElem?_cons_succ] at z0 z1 z2; have HBW := Lib.hid (HA.out.trans (hb.mono (by simp; have := HB.out.size; omega))); have GG1 := Lib.hid ((hb.block _ (by simp; omega)).trans (bk_a G1.out _)); have GG2 := Lib.hid ((hb.block _ (by simp; omega)).trans (bk_a G2.out _)); clear q_ hb))
        exact ⟨⟨i + 1, J, L, by omega, rfl, rfl, by go_num, by omega, by omega, HG.out.1, HG.out.2, HBW.out, GG1.out, GG2.out⟩, by simp [intOf]; omega⟩
      by_cases g4 : x.f1 ≤ (i : Int)
      case pos =>
        have HF := Lib.hid (HBAD.out (by cases h_ : okD bs l.length i x with | false => rfl | true => (exfalso; simp only [okD, Bool.and_eq_true, decide_eq_true_eq, Bool.not_eq_true', Bool.and_eq_false_iff, Bool.or_eq_false_iff, decide_eq_false_iff_not, beq_eq_false_iff_ne] at h_; obtain ⟨⟨h1, h2, h3, h4⟩, h5, h6, h7⟩ := h_; first | omega | (exact absurd (h4.symm.trans HN.out) (by decide)))))
        clear h2 h3 h4 a3
        go_wp2_with (first | (go_at_call 52; refine (N.numB_calls bs A cA x.f0 x.f1 x.f2 x.f3 x.f4 _ (Kd.C_below HR.out HA.out) hc).mono ?_; rw [show N.numB bs x.f0 x.f1 x.f2 x.f3 x.f4 = true from HN.out]; rintro e w1 ⟨rfl, hb⟩; have q_ := (hb.block wr.heap.size (by simp)).trans BX.out; have z0 := bk_c q_ 0; have z1 := bk_c q_ 1; have z2 := bk_c q_ 2; have hz1 := blk_lt q_; simp only [List.getElem?_toArray, List.getElem?_cons_zero, List.getElem?_cons_succ] at z0 z1 z2; have HBW := Lib.hid (HA.out.trans (hb.mono (by simp; have := HB.out.size; omega))); have GG1 := Lib.hid ((hb.block _ (by simp; omega)).trans (bk_a G1.out _)); have GG2 := Lib.hid ((hb.block _ (by simp; omega)).trans (bk_a G2.out _)); clear q_ hb))
        go_ret
        exact ⟨by rw [HF.out]; rfl, HBW.out⟩
      have hgo := HGO.out (by simp only [okD, Bool.and_eq_true, decide_eq_true_eq, Bool.not_eq_true', Bool.and_eq_false_iff, Bool.or_eq_false_iff, decide_eq_false_iff_not, beq_eq_false_iff_ne]; exact ⟨⟨by omega, by omega, by omega, HN.out⟩, by omega, by omega, by omega⟩)
      rw [if_neg (by omega), if_neg (by omega)] at hgo
      have HG := Lib.hid hgo
      clear hgo
      clear h2 h3 h4 a3
      go_wp2_with (first | (go_at_call 52; refine (N.numB_calls bs A cA x.f0 x.f1 x.f2 x.f3 x.f4 _ (Kd.C_below HR.out HA.out) hc).mono ?_; rw [show N.numB bs x.f0 x.f1 x.f2 x.f3 x.f4 = true from HN.out]; rintro e w1 ⟨rfl, hb⟩; have q_ := (hb.block wr.heap.size (by simp)).trans BX.out; have z0 := bk_c q_ 0; have z1 := bk_c q_ 1; have z2 := bk_c q_ 2; have hz1 := blk_lt q_; simp only [List.getElem?_toArray, List.getElem?_cons_zero, List.getElem?_cons_succ] at z0 z1 z2; have HBW := Lib.hid (HA.out.trans (hb.mono (by simp; have := HB.out.size; omega))); have GG1 := Lib.hid ((hb.block _ (by simp; omega)).trans (bk_a G1.out _)); have GG2 := Lib.hid ((hb.block _ (by simp; omega)).trans (bk_a G2.out _)); clear q_ hb))
      exact ⟨⟨i + 1, J, L, by omega, rfl, rfl, by go_num, by omega, by omega, HG.out.1, HG.out.2, HBW.out, GG1.out, GG2.out⟩, by simp [intOf]; omega⟩
    have t2 : (x.f0 == 2) = false := beq_eq_false_iff_ne.mpr h2
    have t3 : (x.f0 == 3) = false := beq_eq_false_iff_ne.mpr h3
    have t4 : (x.f0 == 4) = false := beq_eq_false_iff_ne.mpr h4
    by_cases e1 : x.f0 = 1
    case pos =>
      have e0 : ¬ (i : Int) > 0 := fun h => a3 ⟨e1, h⟩
      have t1 : (x.f0 == 1) = true := beq_iff_eq.2 e1
      have hgo := HGO.out (by simp only [okD, Bool.and_eq_true, decide_eq_true_eq, Bool.not_eq_true', Bool.and_eq_false_iff, Bool.or_eq_false_iff, decide_eq_false_iff_not, beq_eq_false_iff_ne]; exact ⟨⟨by omega, by omega, by omega, HN.out⟩, by omega, by omega, by omega⟩)
      rw [if_neg (by omega), if_neg (by omega)] at hgo
      have HG := Lib.hid hgo
      clear hgo
      clear h2 h3 h4 a3 e1
      go_wp2_with (first | (go_at_call 52; refine (N.numB_calls bs A cA x.f0 x.f1 x.f2 x.f3 x.f4 _ (Kd.C_below HR.out HA.out) hc).mono ?_; rw [show N.numB bs x.f0 x.f1 x.f2 x.f3 x.f4 = true from HN.out]; rintro e w1 ⟨rfl, hb⟩; have q_ := (hb.block wr.heap.size (by simp)).trans BX.out; have z0 := bk_c q_ 0; have z1 := bk_c q_ 1; have z2 := bk_c q_ 2; have hz1 := blk_lt q_; simp only [List.getElem?_toArray, List.getElem?_cons_zero, List.getElem?_cons_succ] at z0 z1 z2; have HBW := Lib.hid (HA.out.trans (hb.mono (by simp; have := HB.out.size; omega))); have GG1 := Lib.hid ((hb.block _ (by simp; omega)).trans (bk_a G1.out _)); have GG2 := Lib.hid ((hb.block _ (by simp; omega)).trans (bk_a G2.out _)); clear q_ hb))
      exact ⟨⟨i + 1, J, L, by omega, rfl, rfl, by go_num, by omega, by omega, HG.out.1, HG.out.2, HBW.out, GG1.out, GG2.out⟩, by simp [intOf]; omega⟩
    have t1 : (x.f0 == 1) = false := beq_eq_false_iff_ne.mpr e1
    have hgo := HGO.out (by simp only [okD, Bool.and_eq_true, decide_eq_true_eq, Bool.not_eq_true', Bool.and_eq_false_iff, Bool.or_eq_false_iff, decide_eq_false_iff_not, beq_eq_false_iff_ne]; exact ⟨⟨by omega, by omega, by omega, HN.out⟩, by omega, by omega, by omega⟩)
    rw [if_neg (by omega), if_neg (by omega)] at hgo
    have HG := Lib.hid hgo
    clear hgo
    clear h2 h3 h4 a3 e1
    go_wp2_with (first | (go_at_call 52; refine (N.numB_calls bs A cA x.f0 x.f1 x.f2 x.f3 x.f4 _ (Kd.C_below HR.out HA.out) hc).mono ?_; rw [show N.numB bs x.f0 x.f1 x.f2 x.f3 x.f4 = true from HN.out]; rintro e w1 ⟨rfl, hb⟩; have q_ := (hb.block wr.heap.size (by simp)).trans BX.out; have z0 := bk_c q_ 0; have z1 := bk_c q_ 1; have z2 := bk_c q_ 2; have hz1 := blk_lt q_; simp only [List.getElem?_toArray, List.getElem?_cons_zero, List.getElem?_cons_succ] at z0 z1 z2; have HBW := Lib.hid (HA.out.trans (hb.mono (by simp; have := HB.out.size; omega))); have GG1 := Lib.hid ((hb.block _ (by simp; omega)).trans (bk_a G1.out _)); have GG2 := Lib.hid ((hb.block _ (by simp; omega)).trans (bk_a G2.out _)); clear q_ hb))
    exact ⟨⟨i + 1, J, L, by omega, rfl, rfl, by go_num, by omega, by omega, HG.out.1, HG.out.2, HBW.out, GG1.out, GG2.out⟩, by simp [intOf]; omega⟩
end Go.Proofs.Ytedghbjmhcgilaa.A
end
