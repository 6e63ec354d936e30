import Derived.OwnWalk
import Derived.Test.YtedghbjmhcgilaaKt4
import Derived.Test.YtedghbjmhcgilaaKt6
import Derived.Test.YtedghbjmhcgilaaKt7
import Derived.Test.YtedghbjmhcgilaaKt8
section
namespace Go.Proofs.Ytedghbjmhcgilaa.A
open Go.RowKit Go.Shelf Go.Maps Go.Proofs.YtedghbjmhcgilaaW.PrintWords Go.Proofs.YtedghbjmhcgilaaW.PrintLast Go.Proofs.YtedghbjmhcgilaaW.PrintMore
open Go.Proofs.Ytedghbjmhcgilaa.POpt
attribute [local go_sem] Oper.semAt_some
set_option linter.unusedVariables false
set_option linter.unusedSimpArgs false
set_option maxRecDepth 100000 in
set_option maxHeartbeats 2000000 in
theorem without_calls (A0 : Option Addr) (c0 : Nat) (l0 : List S35) (A1 : Option Addr) (c1 : Nat) (l1 : List S37) (A2 : Option Addr) (c2 : Nat) (out : List Bool) (w : World) (bV : Nat) (okR : Nat → Prop)
    (hr0 : Kd.C k35 w A0 l0.length l0) (hc0 : l0.length ≤ c0) (hr1 : Kd.R k37 37 w bV okR (.slice A1 l1.length c1) l1) (hr2 : Kd.C Kd.bool w A2 out.length out) (hc2 : out.length ≤ c2)
    (hlen : out.length = l0.length) (hs0 : l0.length < 3518437208883) (hs1 : l1.length ≤ 140737488355328) (hbV : bV ≤ w.heap.size) (hw0 : ∀ x ∈ l0, wfS x) (hw1 : ∀ x ∈ l1, wfI x.f1) :
    Calls Try.prog 58 #[.slice A0 l0.length c0, .slice A1 l1.length c1, .slice A2 out.length c2] w fun e w' => ∃ v : Value, e = .returned v ∧ Kd.R k35 35 w' w.heap.size (fun _ => True) v ((keptAt l0 out l0.length).map (placed (toNow out l0.length))) ∧ Kd.R k37 37 w' bV okR (.slice A1 l1.length c1) (l1.map (placedR (toNow out l0.length))) ∧ Below bV w w' ∧ (∀ k, k < w.heap.size → some k ≠ (Value.slice A1 l1.length c1).ownBlock → w'.heap[k]? = w.heap[k]?) := by
  refine (callsIn_wide (n := 8)).1 ?_
  refine callsIn_of_wp_marks Try.func58 rfl trivial ?_ rfl
  simp only [Try.ntmps58, List.size_toArray, List.length_cons, List.length_nil, Nat.reduceAdd, Nat.reduceSub, Array.replicate_succ, Array.replicate_zero, List.push_toArray, List.append_toArray, List.nil_append, List.cons_append]
  rw [wpIn_wide]
  have hmm := @run_makeMap Try.prog
  have HR0 := Lib.hid hr0
  have HR1 := Lib.hid hr1
  have HR2 := Lib.hid hr2
  have HW0 := Lib.hid hw0
  have HW1 := Lib.hid hw1
  clear hr0 hr1 hr2 hw0 hw1
  go_wp2_with (first | ((with_reducible refine gate_dst (N := 18) rfl ?_); go_loud (refine Kd.R_makecap k35 _ 35 rfl (N := 18) rfl 27 _ _ rfl (l0.length : Int) rfl rfl Try.underlying27 (.agg #[(.int .i64 0), (.int .i64 0), (.int .i64 0), (.int .i64 0), (.int .i64 0)]) 40 info35 rfl (by decide) (by omega) z35 (ok := fun _ => True) (okp := fun _ => True) (k35_mkM _ _ _ z35 ) (fun _ hk => hk) trivial (by omega) (by omega) (Below.refl _ _) (Nat.le_refl _) ?_); intro v1 w1 ho1 hb1 hg1 hnew1; have HO1 := Lib.hid ho1; have HB1 := Lib.hid hb1; clear ho1 hb1 hg1 hnew1))
  have hbw1 : Below w.heap.size w w1 := (((Below.refl _ _).alloc (Nat.le_refl _) _).alloc (by simp) _).trans (HB1.out.mono (by simp; omega))
  have hmp : w1.heap[w.heap.size]? = some (.map #[] 0) := blk_below (blk_alloc (blk_new _ _) _) HB1.out
  have hpt : w1.heap[w.heap.size + 1]? = some (.cells #[.map (some w.heap.size)] 101 (0, 0)) := blk_below (by have := blk_new (w.alloc (.map #[] 0)) (.cells #[.map (some w.heap.size)] 101 (0, 0)); simpa using this) HB1.out
  have himap : IMap w1 w.heap.size 0 (nowAt out 0) := by rw [nowAt_zero]; exact (IMap.made w).same (hmp.trans (blk_new _ _).symm)
  have HO2 := Lib.hid (Kd.R_lower HO1.out (show w.heap.size + 2 ≤ _ by simp))
  have HBW := Lib.hid hbw1
  have HPT := Lib.hid hpt
  have HIM := Lib.hid himap
  clear HO1 HB1 hbw1 hpt himap hmp
  go_loopw [8, 21] (fun s8 s21 wl => ∃ (k N : Nat) (v : Value), k ≤ l0.length ∧ N ≤ k ∧ s21 = .int .i64 k ∧ s8 = v ∧ Hid (Below w.heap.size w wl) ∧ Hid (Kd.R k35 35 wl (w.heap.size + 2) (fun _ => True) v (keptAt l0 out k)) ∧ Hid (IMap wl w.heap.size N (nowAt out k)) ∧ Hid (wl.heap[w.heap.size + 1]? = some (.cells #[.map (some w.heap.size)] 101 (0, 0)))) (fun _ s21 _ => l0.length - (intOf s21).toNat)
  case atStart => exact ⟨0, 0, _, Nat.zero_le _, Nat.le_refl _, rfl, rfl, HBW, HO2, HIM, HPT⟩
  case round =>
    obtain ⟨k, N, v, hk, hN, rfl, rfl, HB, HO, HM, HP⟩ := hrel
    by_cases hlt : k < l0.length
    · have hltz : (k : Int) < (l0.length : Int) := by omega
      have hzo : k < out.length := by omega
      obtain ⟨ad, eA, q0, q1, q2, q3, q4⟩ := at_T35 (Kd.C_below HR0.out HB.out) (k : Int) (by omega) (by omega)
      subst eA
      obtain ⟨ad2, eA2, qb⟩ := Kd.at_bool (Kd.C_below HR2.out HB.out) (k : Int) (by omega) (by omega)
      subst eA2
      rw [rdS hlt] at q0 q1 q2 q3 q4
      rw [rdB hzo] at qb
      simp only [Int.toNat_natCast] at q0 q1 q2 q3 q4 qb
      have hl2 := World.block_lt_of_cell? _ _ qb
      have kp := blk_cell HP.out 0
      simp only [List.getElem?_toArray, List.getElem?_cons_zero] at kp
      have hlp := blk_lt HP.out
      have hle1 : w.heap.size ≤ wr.heap.size := HB.out.size
      by_cases hb : out[k] = true
      · rw [hb] at qb
        go_wp2_with fail
        refine ⟨⟨k + 1, N, u8, by omega, by omega, by go_num, rfl, ?_, ?_, ?_, ?_⟩, by simp [intOf]; omega⟩
        · exact HB.out.alloc hle1 _
        · rw [keptAt_succ hlt hlen, if_pos hb]; exact Kd.R_alloc HO.out _
        · rw [nowAt_true hzo hb]; exact HM.out.same (Below.heap_alloc _ _ _ HM.out.lt)
        · exact blk_alloc HP.out _
      · have hb : out[k] = false := by simpa using hb
        rw [hb] at qb
        obtain ⟨Av, cv, ev⟩ := Kd.R_slice HO.out
        subst ev
        have HM2 : IMap (wr.alloc (.cells #[.int .i64 l0[k].f0, .int .i64 l0[k].f1, .int .i64 l0[k].f2, .int .i64 l0[k].f3, .int .i64 l0[k].f4] 35)) w.heap.size N (nowAt out k) := HM.out.same (Below.heap_alloc _ _ _ HM.out.lt)
        have HO2' := Lib.hid (Kd.R_bound (Kd.R_alloc HO.out (.cells #[.int .i64 l0[k].f0, .int .i64 l0[k].f1, .int .i64 l0[k].f2, .int .i64 l0[k].f3, .int .i64 l0[k].f4] 35)))
        have hkl := keptAt_le l0 out k
        have HBX := Lib.hid (blk_new wr (.cells #[.int .i64 l0[k].f0, .int .i64 l0[k].f1, .int .i64 l0[k].f2, .int .i64 l0[k].f3, .int .i64 l0[k].f4] 35 (0, 0)))
        obtain ⟨D, hown, hisM, hf⟩ := HM2
        have hwk : (Lit.int .i64 (k : Int)).wf = true := wf64 (by omega)
        have hwv : (Lit.int .i64 ((keptAt l0 out k).length : Int)).wf = true := wf64 (by omega)
        have HPUT := Lib.hid (fun W' => IMap.put_law (W := wr) (W' := W') (b := w.heap.size) (N := N) (k : Int) ((keptAt l0 out k).length : Int) hwk hwv hisM hf)
        clear hisM hf
        go_wp2_with (first | (at_mapUpdate; go_loud (refine wpList_mapUpdate_own _ rfl _ _ _ 101 rfl 3 3 law3 Try.underlying101 _ w.heap.size N D rfl hown (by unfold maxLen; omega) _ _ (.int .i64 (k : Int)) rfl rfl (keyOf_int_mk Try.underlying3 hwk) (.lit (.int .i64 ((keptAt l0 out k).length : Int))) [] (plainElem_int Try.underlying3 hwv) ?_); intro w2 hown2 hg2; have HM3 := Lib.hid (HPUT.out _ hown2); have HO3 := Lib.hid (Kd.R_mono (ok' := fun _ => True) (Kd.R_move HO2'.out (fun k_ hk_ => hg2.block k_ hk_.2.2.1 (fun e_ => by have := hk_.2.1; injection e_; omega))) (fun _ _ => trivial)); have HBX2 := Lib.hid (blk_grown HBX.out hg2 (fun e_ => by injection e_; omega)); have HP2 := Lib.hid (blk_grown (blk_alloc HP.out _) hg2 (fun e_ => by injection e_; omega)); have HB2 := Lib.hid ((HB.out.alloc hle1 (.cells #[.int .i64 l0[k].f0, .int .i64 l0[k].f1, .int .i64 l0[k].f2, .int .i64 l0[k].f3, .int .i64 l0[k].f4] 35)).grown hg2 (by simp; omega) (fun k e => by injection e; omega)); have hz2 := hg2.size; simp only [World.size_alloc] at hz2; have x0 := blk_cell HBX2.out 0; have x1 := blk_cell HBX2.out 1; have x2 := blk_cell HBX2.out 2; have x3 := blk_cell HBX2.out 3; have x4 := blk_cell HBX2.out 4; simp only [List.getElem?_toArray, List.getElem?_cons_zero, List.getElem?_cons_succ] at x0 x1 x2 x3 x4; clear hown2 hg2) | ((with_reducible refine gate_builtin (b := .append) (xs := #[.tmp 35, .tmp 37]) rfl ?_); at_builtin; go_loud (refine Kd.R_append k35 (w0 := w2) (w.heap.size + 2) rfl (.tmp 35) (.tmp 37) 27 35 (.agg #[(.int .i64 0), (.int .i64 0), (.int .i64 0), (.int .i64 0), (.int .i64 0)]) 40 rfl Try.underlying27 info35 rfl (by decide) (by omega) (.slice Av (keptAt l0 out k).length cv) (keptAt l0 out k) l0[k] [.int .i64 l0[k].f0, .int .i64 l0[k].f1, .int .i64 l0[k].f2, .int .i64 l0[k].f3, .int .i64 l0[k].f4] (fun _ => True) (fun _ => False) rfl rfl (k35_mkM _ _ _ l0[k]) (fun _ hk => hk.elim) (fun _ _ => trivial) HO3.out (Below.refl _ _) (by omega) (by omega) ?_); intro v3 w3 ho3 hb3 hg3 hat3; have HO4 := Lib.hid ho3; have HB4 := Lib.hid hb3; clear ho3 hb3 hg3 hat3))
        refine ⟨⟨k + 1, N + 1, v3, by omega, by omega, by go_num, rfl, ?_, ?_, ?_, ?_⟩, by simp [intOf]; omega⟩
        · exact HB2.out.trans (HB4.out.mono (by omega))
        · rw [keptAt_succ hlt hlen, if_neg (by simp [hb])]; exact HO4.out
        · rw [nowAt_false (l := l0) hzo hlen hb]; exact HM3.out.same (HB4.out.block _ (by omega))
        · exact (HB4.out.block _ (by omega)).trans HP2.out
    · have hkn : k = l0.length := by omega
      subst hkn
      go_wp2_with fail
      obtain ⟨Av, cv, ev⟩ := Kd.R_slice HO.out
      subst ev
      refine (places_calls _ _ Av A1 (keptAt l0 out l0.length).length cv l1.length c1 _ rfl rfl).mono ?_
      rintro e w3 ⟨rfl, hw3⟩
      dsimp only
      go_wp2_with fail
      rw [← wpIn_wide (n := 8)]
      have hKb0 : Below w.heap.size w w3 := by rw [← hw3]; exact (HB.out.alloc HB.out.size _).alloc (by have := HB.out.size; simp; omega) _
      have hzw : w.heap.size + 1 < wr.heap.size := blk_lt HP.out
      have zz3 : w3.heap.size = wr.heap.size + 2 := by rw [← hw3]; simp
      have h3at : ∀ k, k < wr.heap.size → w3.heap[k]? = wr.heap[k]? := fun k h1 => by
        rw [← hw3, Below.heap_alloc _ _ _ (by simp; omega), Below.heap_alloc _ _ _ h1]
      have c1' : w3.heap[wr.heap.size]? = some (.cells #[.slice Av (keptAt l0 out l0.length).length cv] 27 (0, 0)) := by
        rw [← hw3]; exact blk_alloc (blk_new wr _) _
      have c2' : w3.heap[wr.heap.size + 1]? = some (.cells #[.slice A1 l1.length c1] 28 (0, 0)) := by
        rw [← hw3]
        have := blk_new (wr.alloc (.cells #[.slice Av (keptAt l0 out l0.length).length cv] 27)) (.cells #[.slice A1 l1.length c1] 28 (0, 0))
        simpa using this
      have hKl := keptAt_le l0 out l0.length
      have hKw : ∀ x ∈ keptAt l0 out l0.length, wfS x := fun x hx => HW0.out x (keptAt_mem hx)
      have hV0 := Kd.R_move (Kd.R_bound HO.out) (w1 := w3) (fun k hk => h3at k hk.2.2.1)
      have hV2 := Kd.R_move (Kd.R_move (Kd.R_bound HR1.out) (w1 := wr) (fun k hk => HB.out.block k hk.2.2.1)) (w1 := w3) (fun k hk => h3at k (by have := hk.2.2.1; omega))
      have hM3 : IMap w3 w.heap.size N (nowAt out l0.length) := HM.out.same (h3at _ (by omega))
      have hP3 := (h3at (w.heap.size + 1) (by omega)).trans HP.out
      have HKW := Lib.hid hKw
      clear hw3 hKw HM HP
      generalize hkp : keptAt l0 out l0.length = kept at *
      obtain ⟨gS, hS, sS⟩ : ∃ gS, (0 < kept.length → Av = some ⟨gS, 0, none⟩) ∧ ((w.heap.size + 2 ≤ gS ∧ gS < wr.heap.size ∧ 0 < kept.length) ∨ (kept.length = 0 ∧ gS = w3.heap.size + 5)) := by
        by_cases hn : 0 < kept.length
        · obtain ⟨g, cells, hA, hbg, hgl, hok, hh, _, _⟩ := R_shape hV0 hn (by show 0 < 5; omega)
          exact ⟨g, fun _ => hA, .inl ⟨hok.2.1, hok.2.2.1, hn⟩⟩
        · exact ⟨_, fun h => absurd h hn, .inr ⟨by omega, rfl⟩⟩
      obtain ⟨gR, hR, sR⟩ : ∃ gR, (0 < l1.length → A1 = some ⟨gR, 0, none⟩) ∧ ((bV ≤ gR ∧ gR < w.heap.size ∧ 0 < l1.length) ∨ (l1.length = 0 ∧ gR = w3.heap.size + 6)) := by
        by_cases hn : 0 < l1.length
        · obtain ⟨g, cells, hA, hbg, hgl, hok, hh, _, _⟩ := R_shape hV2 hn (by show 0 < 2; omega)
          exact ⟨g, fun _ => hA, .inl ⟨hok.2.1, hok.2.2.1, hn⟩⟩
        · exact ⟨_, fun h => absurd h hn, .inr ⟨by omega, rfl⟩⟩
      have hne : gS ≠ gR := by rcases sS with ⟨h1, h2, _⟩ | ⟨_, h1⟩ <;> rcases sR with ⟨h4, h5, _⟩ | ⟨_, h4⟩ <;> omega
      have hlenK : (kept.map S35.f0).length = kept.length := List.length_map _
      have hop : ∀ i, i < (kept.map S35.f0).length → w3.cell? ⟨gS, 0 + i * 5, none⟩ = some (.int .i64 ((kept.map S35.f0).getD i 0)) := by
        intro i hi
        rw [hlenK] at hi
        obtain ⟨Ax, cx, he, hl, hC⟩ := Kd.R_reads hV0
        injection he with e1 e2 e3
        subst e1
        rw [hS (by omega)] at hC
        obtain ⟨ad, ead, q0, q1, q2, q3, q4⟩ := at_T35 hC (i : Int) (by omega) (by omega)
        injection ead with ead
        subst ead
        simp only [Int.toNat_natCast, Addr.add_lit] at q0
        rw [q0]
        simp [rd_T35, List.getD, hi]
      obtain ⟨okS, hV0, hoS1⟩ : ∃ okS : Nat → Prop, k35.R 35 w3 (w.heap.size + 2) okS (.slice Av kept.length cv) kept ∧ (∀ k, okS k → w.heap.size + 2 ≤ k ∧ k < wr.heap.size) := ⟨_, hV0, fun k hk => ⟨hk.2.1, hk.2.2.1⟩⟩
      obtain ⟨okQ, hV2, hoR1, hoR2⟩ : ∃ okQ : Nat → Prop, k37.R 37 w3 bV okQ (.slice A1 l1.length c1) l1 ∧ (∀ k, okQ k → bV ≤ k ∧ k < w.heap.size) ∧ ∀ k, okQ k → okR k := ⟨_, hV2, fun k hk => ⟨hk.2.1, hk.2.2.1⟩, fun k hk => hk.1⟩
      have hb0 : Below w3.heap.size w3 w3 := Below.refl _ _
      have hI0 : PInv (toNow out l0.length) bV w w3 gS gR bV okS okQ (.slice Av kept.length cv) (.slice A1 l1.length c1) kept l1 [] w3 := ⟨Nat.le_refl _, hKb0.mono hbV, fun _ _ _ _ => rfl, Kd.R_lower hV0 (by omega), hV2⟩
      have hPHI : ∀ p c : Int, wfI c → wfI (toNow out l0.length p c) := fun p c => toNow_wf (by omega) hlen p c
      have HPHI := Lib.hid hPHI
      have HM3 := Lib.hid hM3
      have HP3 := Lib.hid hP3
      clear hPHI hM3 hP3
      refine wpIn_rangeFunc_ownG rfl (by omega) (gf := 59) (lb := #[.pointer (some ⟨wr.heap.size, 0, none⟩), .pointer (some ⟨wr.heap.size + 1, 0, none⟩)]) rfl trivial (enters_of Try.func59 (by kernel_rfl) rfl)
        (places_stops 7 (by omega) wr.heap.size (wr.heap.size + 1) gS 0 gR 0 (kept.map S35.f0) cv l1.length c1 Av A1 w3 (by rw [hlenK]; exact hS) hR (by rw [hlenK]; omega) (by omega) (by omega) (by omega) (by rw [hlenK]; intro h; rcases sS with ⟨_, q1, _⟩ | ⟨q1, _⟩ <;> omega)
          (by rw [hlenK]; exact (blk_cell c1' 0).trans rfl) ((blk_cell c2' 0).trans rfl) hop)
        (fun h k => h.trans k) (fun W l o o' h1 h2 h3 h4 => KpF_put W l o o' h1 h2 h3 h4) hb0 (by intro x; rfl)
        (fun pre W => PInv (toNow out l0.length) bV w w3 gS gR bV okS okQ (.slice Av kept.length cv) (.slice A1 l1.length c1) kept l1 (pre.map Subtype.val) W) (fun _ _ _ => False)
        (fun s A B row hs hg hr => hs.move (fun k hk => by have := hoS1 k hk; omega) (fun k hk => by have := hoR1 k hk; omega) hg (fun r e => (hr r e).1) (by omega))
        (fun _ _ _ _ _ hs _ _ => hs) hI0 (fun x => { tmps := #[.slice A0 l0.length c0, .slice A1 l1.length c1, .slice A2 l0.length c2, undef, undef, undef, .slice none 0 0, .pointer (some ⟨w.heap.size + 1, 0, none⟩), .slice Av kept.length cv, u9, u10, undef, .pointer (some x.1.2), undef, undef, .map (some w.heap.size), .slice A0 l0.length c0, .int .i64 l0.length, v1, .slice A0 l0.length c0, .int .i64 l0.length, .int .i64 l0.length, .bool false, u23, u24, u25, u26, u27, u28, u29, u30, u31, u32, u33, u34, u35, u36, u37, u38, u39, .slice Av kept.length cv, .slice A1 l1.length c1, .func (.func 59) #[] #[.pointer (some ⟨wr.heap.size, 0, none⟩), .pointer (some ⟨wr.heap.size + 1, 0, none⟩)], .int .i64 x.1.1, .pointer (some x.1.2), undef, undef, undef, undef, undef, undef, undef, undef, undef, undef, undef, undef, undef, undef], defers := [] }) ?assign ?body ?done ?stop
      case assign =>
        intro l x W K hK
        simp only [encsP]
        gi_wp2
        exact hK
      case stop =>
        rintro D c pre W _ _ h _
        exact h.elim
      case done =>
        rintro D xs W hD hxs hI hK
        have hst := hI.same
        have hsz := hI.size
        have HI := Lib.hid hI
        have HX := Lib.hid hxs
        have HK := Lib.hid hK
        clear hI hK hxs hV0 hV2 hI0 hop hb0 c1' c2'
        go_wp2_with fail
        have hsS := HI.out.steps
        have hsR := HI.out.rows
        rw [HX.out] at hsS
        rw [HX.out] at hsR
        rw [fold_steps hne] at hsS
        rw [fold_rows hne] at hsR
        obtain ⟨Ax, cx, he, hl, hC⟩ := Kd.R_reads hsS
        injection he with e1 e2 e3
        subst e1 e3
        have hcall := api_Ins_42.calls Av cv (kept.map (placed (toNow out l0.length))) _ W hC hl (list_some (by rw [List.length_map]; omega))
        rw [List.length_map] at hcall
        refine hcall.mono ?_
        rintro e w5 ⟨v5, rfl, hR5, hB5⟩
        have HC5 := Lib.hid hR5
        have HB5 := Lib.hid hB5
        have HSR := Lib.hid hsR
        clear hR5 hB5 hsS hsR hC hcall
        dsimp only
        go_wp2_with fail
        have hK5 : w5.heap[D]? = some (.deferred (some [])) := (HB5.out.block D (Array.getElem?_eq_some_iff.1 HK.out).1).trans HK.out
        refine ⟨by simp, .inl ⟨_, _, rfl, run_takeDeferred hK5, ?_⟩⟩
        have hDw : D < W.heap.size := (Array.getElem?_eq_some_iff.1 HK.out).1
        have hsame5 : ∀ k, k < W.heap.size → k ≠ D → (w5.putObj D (.deferred none)).heap[k]? = W.heap[k]? := by
          intro k h1 h2
          rw [(grownBy_putObj' _ D _).block k (Nat.lt_of_lt_of_le h1 HB5.out.size) (by intro e; injection e with e; omega), HB5.out.block k h1]
        refine ⟨_, results_tmp rfl _ _ _, ?_⟩
        refine ⟨v5, rfl, ?_, ?_, ?_, ?_⟩
        · rw [hkp]
          exact Kd.R_lower (Kd.R_mono (Kd.R_move (Kd.R_bound HC5.out) (fun k hk => (grownBy_putObj' w5 D _).block k hk.2.2.1 (by intro e; injection e with e; have := hk.2.1; omega))) (fun _ _ => trivial)) (by omega)
        · exact Kd.R_mono (Kd.R_move HSR.out (fun k hk => hsame5 k (by have := hoR1 k hk; omega) (by have := hoR1 k hk; omega))) hoR2
        · have h1 := HI.out.below
          have h2 : Below bV W w5 := HB5.out.mono (by omega)
          exact (h1.trans h2).grown (grownBy_putObj' w5 D _) (by have := h2.size; omega) (fun k e => by injection e with e; omega)
        · intro k h1 h2
          rw [hsame5 k (by omega) (by omega), hst k (by omega) (by rcases sS with ⟨q1, q2, _⟩ | ⟨_, q1⟩ <;> omega) (by
            rcases sR with ⟨q1, q2, hn⟩ | ⟨_, q1⟩
            · intro e
              subst e
              rw [hR hn] at h2
              exact h2 rfl
            · omega), hKb0.block k h1]
      case body =>
        rintro l pre ⟨⟨op, p⟩, hmem⟩ W hI hlen'
        have hst := hI.same
        have hsz := hI.size
        have e3 := (hst (w.heap.size + 1) (by omega) (by rcases sS with ⟨q1, q2, _⟩ | ⟨_, q1⟩ <;> omega) (by rcases sR with ⟨q1, q2, _⟩ | ⟨_, q1⟩ <;> omega)).trans HP3.out
        have hMW : IMap W w.heap.size N (nowAt out l0.length) := HM3.out.same (hst w.heap.size (by omega) (by rcases sS with ⟨q1, q2, _⟩ | ⟨_, q1⟩ <;> omega) (by rcases sR with ⟨q1, q2, _⟩ | ⟨_, q1⟩ <;> omega))
        obtain ⟨c, pb, po, hx2, hcell, hfr, hpl, hcw⟩ : ∃ c pb po, p = ⟨pb, po, none⟩ ∧ W.cell? ⟨pb, po, none⟩ = some (.int .i64 c) ∧ W.frozen? ⟨pb, po, none⟩ = false ∧ ((∃ i j, (j = 1 ∨ j = 2) ∧ pb = gS ∧ po = i * 5 + j ∧ 0 < kept.length) ∨ (pb = gR ∧ 0 < l1.length)) ∧ wfI c := by
          rcases hI.cell hS hR rfl rfl hlenK hmem with ⟨i, j, hi, h12, hx2, hc, hf⟩ | ⟨i, hi, hx2, hc, hf⟩
          · dsimp only at hx2 hc hf
            rw [hx2] at hc hf
            exact ⟨_, _, _, hx2, hc, hf, .inl ⟨i, j, h12, rfl, rfl, by omega⟩, wfS_get (foldS_wf HPHI.out gS _ _ HKW.out) i j⟩
          · dsimp only at hx2 hc hf
            rw [hx2] at hc hf
            exact ⟨_, _, _, hx2, hc, hf, .inr ⟨rfl, by omega⟩, wfR_getD (foldR_wf HPHI.out gR _ _ HW1.out) i⟩
        subst hx2
        have hlook : ∀ q, (Instr.lookup 101 (.map (some w.heap.size)) (.int .i64 c) true).run Try.prog (W.drewN q) = .ok (.tuple #[.int .i64 ((nowAt out l0.length c).getD 0), .bool (nowAt out l0.length c).isSome]) (W.drewN q) := fun q => (hMW.same (W' := W.drewN q) rfl).look c hcw
        have hfin : ∀ q, KeepsFrom w3.heap.size W ((W.setCell ⟨pb, po, none⟩ (.int .i64 (toNow out l0.length op c))).drewN q) ∧ KpF (FixI wr.heap.size (wr.heap.size + 1) gS 0 (kept.map S35.f0).length) W ((W.setCell ⟨pb, po, none⟩ (.int .i64 (toNow out l0.length op c))).drewN q) ∧
            PInv (toNow out l0.length) bV w w3 gS gR bV okS okQ (.slice Av kept.length cv) (.slice A1 l1.length c1) kept l1 ((pre ++ [(⟨(op, ⟨pb, po, none⟩), hmem⟩ : PlaceOf gS 0 (kept.map S35.f0) gR 0 l1.length)]).map Subtype.val) ((W.setCell ⟨pb, po, none⟩ (.int .i64 (toNow out l0.length op c))).drewN q) := by
          intro q
          refine ⟨?_, KpF_of_cells (fun a ha => ?_), ?_⟩
          · exact (keeps_set W _ _ q).from _
          · rw [World.cell?_drewN]
            refine World.cell?_setCell_other _ _ _ _ ?_
            rcases ha with rfl | rfl | ⟨i, hi, rfl⟩
            · intro e; injection e with e; rcases hpl with ⟨i', j', h12, e1, e2, hn⟩ | ⟨e1, hn⟩ <;> rcases sS with ⟨q1, q2, _⟩ | ⟨_, q1⟩ <;> rcases sR with ⟨q3, q4, _⟩ | ⟨_, q3⟩ <;> omega
            · intro e; injection e with e; rcases hpl with ⟨i', j', h12, e1, e2, hn⟩ | ⟨e1, hn⟩ <;> rcases sS with ⟨q1, q2, _⟩ | ⟨_, q1⟩ <;> rcases sR with ⟨q3, q4, _⟩ | ⟨_, q3⟩ <;> omega
            · rcases hpl with ⟨i', j', h12, e1, e2, hn⟩ | ⟨e1, hn⟩
              · intro e; injection e with e e'; omega
              · intro e; injection e with e; exact hne (by omega)
          · rw [List.map_append]
            exact hI.set hS hR rfl rfl hlenK hne (fun k hk e => by have := hoS1 k hk; rcases sR with ⟨q1, q2, _⟩ | ⟨_, q1⟩ <;> omega) (fun k hk e => by have := hoR1 k hk; rcases sS with ⟨q1, q2, _⟩ | ⟨_, q1⟩ <;> omega) (by rcases sS with ⟨q1, q2, _⟩ | ⟨_, q1⟩ <;> omega) (by rcases sR with ⟨q1, q2, _⟩ | ⟨_, q1⟩ <;> omega) hmem c hcell q
        have FIN := Lib.hid hfin
        have HM' := Lib.hid hmem
        have k3 := blk_cell e3 0
        simp only [List.getElem?_toArray, List.getElem?_cons_zero] at k3
        have hself := Lib.hid (setCell_self hcell)
        have hmx : Try.prog.follows .mixedOrders = true := by kernel_rfl
        clear hfin hI hst e3 hMW hlen' hV0 hV2 hI0 hop hb0 c1' c2' h3at hpl
        dsimp only
        cases hnow : nowAt out l0.length c with
        | none =>
          rw [hnow] at hlook
          simp only [Option.getD_none, Option.isSome_none] at hlook
          have HN : toNow out l0.length op c = c := by unfold toNow; rw [hnow]; rfl
          rw [HN, hself.out] at FIN
          clear hnow
          gi_wp2
          refine wpIn_region_quiet_round hmx (by kernel_rfl) (by kernel_rfl) ?_
          repeat (gi_big_quiet_step (fail))
          refine wpQuietIn_nil ?_
          intro _ hw'
          obtain ⟨nq, hw''⟩ := hw'
          subst hw''
          gi_wp2
          exact FIN.out _
        | some v =>
          rw [hnow] at hlook
          simp only [Option.getD_some, Option.isSome_some] at hlook
          have HN : toNow out l0.length op c = v := by unfold toNow; rw [hnow]; rfl
          rw [HN] at FIN
          clear hnow
          gi_wp2
          refine wpIn_region_quiet_round hmx (by kernel_rfl) (by kernel_rfl) ?_
          repeat (gi_big_quiet_step (fail))
          refine wpQuietIn_nil ?_
          intro _ hw'
          obtain ⟨nq, hw''⟩ := hw'
          subst hw''
          gi_wp2
          exact FIN.out _
end Go.Proofs.Ytedghbjmhcgilaa.A
end
