import Derived.OwnWalk
import Derived.Lib.SliceRun
import Derived.Deep.Upon
import Derived.Lib.EndianMore
import Derived.Test.YtedghbjmhcgilaaKt11
section
namespace Go.Proofs.Ytedghbjmhcgilaa.A
open Go.RowKit Go.Shelf Go.Maps Go.Proofs.YtedghbjmhcgilaaW.PrintWords Go.Proofs.YtedghbjmhcgilaaW.PrintLast Go.Proofs.YtedghbjmhcgilaaW.PrintMore
open Go.Proofs.Ytedghbjmhcgilaa.POpt
attribute [local go_sem] Oper.semAt_some
set_option linter.unusedVariables false
set_option linter.unusedSimpArgs false
theorem zero37 (w : World) : (zeroValue 37).run Try.prog w = .ok (.agg #[.int .i64 0, .int .i64 0]) w := by kernel_rfl
theorem zeroCells_two (n : Nat) : (Builtin.zeroCells #[Value.int .i64 0, .int .i64 0] n).toList = List.replicate (n * 2) (.int .i64 0) := by
  simp [Builtin.zeroCells]
  apply List.ext_getElem
  · simp
  · intro i h1 h2
    simp
    have : i % 2 = 0 ∨ i % 2 = 1 := by omega
    rcases this with h | h <;> simp [h]
theorem run_clear37 (b n c : Nat) (ty : TypeId) (w : World) (hn : 0 < n) (hc : ∀ j, j < n * 2 → (w.cell? ⟨b, 0 + j, none⟩).isSome = true) (hf : ∀ j, j < n * 2 → w.frozen? ⟨b, 0 + j, none⟩ = false) :
    (Builtin.clear_ #[28] ty #[.slice (some ⟨b, 0, none⟩) n c]).run Try.prog w = .ok (.tuple #[]) (w.setCells b 0 (List.replicate (n * 2) (.int .i64 0))) := by
  have hst := run_storeCells_cells (P := Try.prog) b 0 (List.replicate (n * 2) (Value.int .i64 0)) 0 w (by simpa using hc) (by simpa using hf) (by intro v hv'; rw [List.eq_of_mem_replicate hv']; rfl)
  simp only [Nat.add_zero] at hst
  obtain ⟨m, rfl⟩ : ∃ m, n = m + 1 := ⟨n - 1, by omega⟩
  have hz := zeroCells_two (m + 1)
  simp [Builtin.clear_, run_underlying Try.underlying28, zero37, Value.cells, hz, hst]
theorem run_clear37_nil (a : Option Addr) (c : Nat) (ty : TypeId) (w : World) : (Builtin.clear_ #[28] ty #[.slice a 0 c]).run Try.prog w = .ok (.tuple #[]) w := by
  cases a <;> simp [Builtin.clear_, run_underlying Try.underlying28]
theorem clear_rows {W : World} {base : Nat} {ok : Nat → Prop} {A : Option Addr} {n c : Nat} {xs : List S37} (h : k37.R 37 W base ok (.slice A n c) xs) :
    ∃ W', (∀ ty, (Builtin.clear_ #[28] ty #[.slice A n c]).run Try.prog W = .ok (.tuple #[]) W') ∧ Below base W W' ∧ ∀ k, k < W.heap.size → some k ≠ (Value.slice A n c).ownBlock → W'.heap[k]? = W.heap[k]? := by
  by_cases hn : 0 < n
  · obtain ⟨g, cells, hA, hbg, hgl, hok, hh, hnx, _⟩ := R_shape h hn (by show 0 < 2; omega)
    obtain ⟨_, _, hC⟩ := Kd.R_reads' h
    subst hA
    refine ⟨_, fun ty => run_clear37 g n c ty W hn ?_ ?_, Lib.below_setCells_w hbg _ _ _, fun k h1 h2 => World.heap_setCells_other W g 0 _ h1 (fun e => h2 (by subst e; rfl))⟩
    · intro j hj
      obtain ⟨ad, ead, q0, q1⟩ := at_T37 hC ((j / 2 : Nat) : Int) (by omega) (by omega)
      injection ead with ead
      subst ead
      simp only [Int.toNat_natCast, Addr.add_lit, Nat.zero_add] at q0 q1
      rw [Nat.zero_add]
      have : j = j / 2 * 2 ∨ j = j / 2 * 2 + 1 := by omega
      rcases this with e | e
      · rw [e, q0]; rfl
      · rw [e, q1]; rfl
    · intro j hj
      exact blk_frozen hh _
  · obtain rfl : n = 0 := by omega
    exact ⟨W, fun ty => run_clear37_nil A c ty W, Below.refl _ _, fun _ _ _ => rfl⟩
end Go.Proofs.Ytedghbjmhcgilaa.A
end
section
namespace Go.Proofs.Ytedghbjmhcgilaa.A
open Go.RowKit Go.Shelf Go.Maps Go.Proofs.YtedghbjmhcgilaaW.PrintWords Go.Proofs.YtedghbjmhcgilaaW.PrintLast Go.Proofs.YtedghbjmhcgilaaW.PrintMore
open Go.Proofs.Ytedghbjmhcgilaa.POpt
attribute [local go_sem] Oper.semAt_some
set_option linter.unusedVariables false
set_option linter.unusedSimpArgs false
def trimP (r : List Bool) (l0 : List S35) (l1 : List S37) : List S35 × List S37 := ((keptAt l0 (r.map (!·)) l0.length).map (placed (toNow (r.map (!·)) l0.length)), l1.map (placedR (toNow (r.map (!·)) l0.length)))
def trimRows (r : List Bool) (l0 : List S35) (l2 : List S37) : List S37 := if decide (0 ≤ jumpAt (trimP r l0 l2).1) = true then (trimP r l0 l2).2 else []
set_option maxRecDepth 100000 in
set_option maxHeartbeats 2000000 in
theorem Trim_calls (A0 : Option Addr) (c0 : Nat) (l0 : List S35) (A1 : Option Addr) (c1 : Nat) (l1 : List S35) (A2 : Option Addr) (c2 : Nat) (l2 : List S37) (w : World)
    (hr0 : Kd.C k35 w A0 l0.length l0) (hc0 : l0.length ≤ c0) (hr1 : Kd.C k35 w A1 l1.length l1) (hc1 : l1.length ≤ c1) (hr2 : Kd.C k37 w A2 l2.length l2) (hc2 : l2.length ≤ c2)
    (hf : fitB l0 l1 l2 = true) (hw0 : ∀ x ∈ l0, wfS x) (hw1 : ∀ x ∈ l1, wfS x) (hw2 : ∀ x ∈ l2, wfI x.f1) (k0 k1 : Nat) (r0 r1 : List Bool) (hq0 : opt_reached.f k0 l0 l2 = some r0) (hq0l : r0.length = l0.length) (hq1 : opt_reached.f k1 l1 [] = some r1) (hq1l : r1.length = l1.length) (hne : ¬ (l0.length = 0 ∧ l1.length = 0)) :
    Calls Try.prog 17 #[.agg #[.slice A0 l0.length c0, .slice A1 l1.length c1, .slice A2 l2.length c2]] w fun e w' => ∃ v0_ v1_ v2_ : Value, e = .returned (.agg #[v0_, v1_, v2_]) ∧ Kd.R k35 35 w' w.heap.size (fun k_ => some k_ ≠ (v1_ : Value).ownBlock) v0_ (trimP r0 l0 l2).1 ∧ Kd.R k35 35 w' w.heap.size (fun k_ => some k_ ≠ (v0_ : Value).ownBlock) v1_ (trimP r1 l1 []).1 ∧ Kd.R k37 37 w' w.heap.size (fun _ => True) v2_ (trimRows r0 l0 l2) ∧ Below w.heap.size w w' := by
  obtain ⟨f0, f1, f2⟩ := fitB_iff.1 hf
  have hcp := copied_some f0 f1 f2
  go_enter Try.func17, Try.ntmps17
  have HR0 := Lib.hid hr0
  have HR1 := Lib.hid hr1
  have HR2 := Lib.hid hr2
  have HW0 := Lib.hid hw0
  have HW1 := Lib.hid hw1
  have HW2 := Lib.hid hw2
  have HCP := Lib.hid hcp
  have HQ0 := Lib.hid hq0
  have HQ1 := Lib.hid hq1
  clear hr0 hr1 hr2 hw0 hw1 hw2 hcp hq0 hq1
  go_wp2_with fail
  have hbA : Below w.heap.size w ((w.alloc (.cells #[.slice A0 l0.length c0, .slice A1 l1.length c1, .slice A2 l2.length c2] 30)).alloc (.cells #[.slice none 0 0, .slice none 0 0, .slice none 0 0] 30)) := ((Below.refl _ _).alloc (Nat.le_refl _) _).alloc (by simp) _
  refine (opt_copied.calls A0 c0 l0 A1 c1 l1 A2 c2 l2 l0 l1 l2 _ (Kd.C_below HR0.out hbA) hc0 (Kd.C_below HR1.out hbA) hc1 (Kd.C_below HR2.out hbA) hc2 HCP.out).mono ?_
  rintro e w1 ⟨v0, v1, v2, rfl, hV0, hV1, hV2, hB1⟩
  have b1 : w1.heap[w.heap.size]? = some (.cells #[.slice A0 l0.length c0, .slice A1 l1.length c1, .slice A2 l2.length c2] 30 (0, 0)) := blk_below (blk_alloc (blk_new _ _) _) hB1
  have b2 : w1.heap[w.heap.size + 1]? = some (.cells #[.slice none 0 0, .slice none 0 0, .slice none 0 0] 30 (0, 0)) := blk_below (by have := blk_new (w.alloc (.cells #[.slice A0 l0.length c0, .slice A1 l1.length c1, .slice A2 l2.length c2] 30)) (.cells #[.slice none 0 0, .slice none 0 0, .slice none 0 0] 30); simpa using this) hB1
  have hBw : Below w.heap.size w w1 := hbA.trans (hB1.mono (by simp; omega))
  have n02 := own_ne_of_types hV0 hV2
  have n12 := own_ne_of_types hV1 hV2
  have hV0' := Kd.R_bound hV0
  have hV1' := Kd.R_bound hV1
  have hV2' := Kd.R_bound hV2
  simp only [World.size_alloc] at hV0' hV1' hV2'
  have z1 := hB1.size
  simp only [World.size_alloc] at z1
  have z1a : w.heap.size < w1.heap.size := by omega
  have z1b : w.heap.size + 1 < w1.heap.size := by omega
  obtain ⟨a0, d0, e0⟩ := Kd.R_slice hV0'
  obtain ⟨a1, d1, e1⟩ := Kd.R_slice hV1'
  obtain ⟨a2, d2, e2⟩ := Kd.R_slice hV2'
  subst e0 e1 e2
  have B1 := Lib.hid b1
  have B2 := Lib.hid b2
  have HV0 := Lib.hid hV0'
  have HV1 := Lib.hid hV1'
  have HV2 := Lib.hid hV2'
  have HBw := Lib.hid hBw
  have k1a := blk_cell b1 0
  have k1b := blk_cell b1 1
  have k1c := blk_cell b1 2
  have f1a := blk_frozen b1 0
  have f1b := blk_frozen b1 1
  have f1c := blk_frozen b1 2
  simp only [List.getElem?_toArray, List.getElem?_cons_zero, List.getElem?_cons_succ] at k1a k1b k1c
  have N02 := Lib.hid n02
  have N12 := Lib.hid n12
  clear hbA hV0 hV1 hV2 hB1 b1 b2 hBw hV0' hV1' hV2' n02 n12
  have htests : (((l0.length : Int) == 0) = false) ∨ (((l0.length : Int) == 0) = true ∧ ((l1.length : Int) == 0) = false) := by
    by_cases h0 : l0.length = 0
    · refine .inr ⟨by simp [h0], ?_⟩
      rw [beq_eq_false_iff_ne]
      intro h; exact hne ⟨h0, by omega⟩
    · left
      rw [beq_eq_false_iff_ne]
      intro h; exact h0 (by omega)
  clear hne
  dsimp only
  rcases htests with t0 | ⟨t0, t1⟩
  · go_wp2_with fail
    clear t0
    have hBs : ∀ k, k ≠ w.heap.size → (((w1.setCell ⟨w.heap.size, 0, none⟩ (.slice a0 l0.length d0)).setCell ⟨w.heap.size, 1, none⟩ (.slice a1 l1.length d1)).setCell ⟨w.heap.size, 2, none⟩ (.slice a2 l2.length d2)).heap[k]? = w1.heap[k]? := fun k h => by
      rw [Below.heap_setCell _ _ _ _ h, Below.heap_setCell _ _ _ _ h, Below.heap_setCell _ _ _ _ h]
    have bB : (((w1.setCell ⟨w.heap.size, 0, none⟩ (.slice a0 l0.length d0)).setCell ⟨w.heap.size, 1, none⟩ (.slice a1 l1.length d1)).setCell ⟨w.heap.size, 2, none⟩ (.slice a2 l2.length d2)).heap[w.heap.size]? = some (.cells #[.slice a0 l0.length d0, .slice a1 l1.length d1, .slice a2 l2.length d2] 30 (0, 0)) := blk_set (blk_set (blk_set B1.out 0 _) 1 _) 2 _
    have hBB : Below w.heap.size w (((w1.setCell ⟨w.heap.size, 0, none⟩ (.slice a0 l0.length d0)).setCell ⟨w.heap.size, 1, none⟩ (.slice a1 l1.length d1)).setCell ⟨w.heap.size, 2, none⟩ (.slice a2 l2.length d2)) := ((HBw.out.setCell (p := ⟨w.heap.size, 0, none⟩) (Nat.le_refl _) _).setCell (p := ⟨w.heap.size, 1, none⟩) (Nat.le_refl _) _).setCell (p := ⟨w.heap.size, 2, none⟩) (Nat.le_refl _) _
    have hsB : (((w1.setCell ⟨w.heap.size, 0, none⟩ (.slice a0 l0.length d0)).setCell ⟨w.heap.size, 1, none⟩ (.slice a1 l1.length d1)).setCell ⟨w.heap.size, 2, none⟩ (.slice a2 l2.length d2)).heap.size = w1.heap.size := by simp [World.setCell]
    generalize hwB : (((w1.setCell ⟨w.heap.size, 0, none⟩ (.slice a0 l0.length d0)).setCell ⟨w.heap.size, 1, none⟩ (.slice a1 l1.length d1)).setCell ⟨w.heap.size, 2, none⟩ (.slice a2 l2.length d2)) = wB at *
    clear hwB
    have hC0 := Kd.R_reads' (Kd.R_move HV0.out (w1 := wB) (fun k hk => hBs k (by have := hk.2.1; omega)))
    have hcl1 := trim_calls a0 d0 l0 a2 d2 l2 k0 r0 wB (w.heap.size + 2) _ hC0.2.2 hC0.2.1 (Kd.R_move HV2.out (fun k hk => hBs k (by have := hk.2.1; omega))) HQ0.out hq0l f0 (by omega) (by omega) HW0.out HW2.out
    clear hC0
    refine hcl1.mono ?_
    clear hcl1
    rintro e w3 ⟨v0', rfl, hD, hRw, hb3, hf3'⟩
    have hf3 : ∀ k, k < wB.heap.size → some k ≠ (Value.slice a0 l0.length d0).ownBlock → some k ≠ (Value.slice a2 l2.length d2).ownBlock → w3.heap[k]? = wB.heap[k]? := fun k a _ b => hf3' k a b
    clear hf3'
    change Kd.R k35 35 w3 wB.heap.size (fun _ => True) v0' (trimP r0 l0 l2).1 at hD
    change Kd.R k37 37 w3 (w.heap.size + 2) _ (.slice a2 l2.length d2) (trimP r0 l0 l2).2 at hRw
    have o0 : some w.heap.size ≠ (Value.slice a0 l0.length d0).ownBlock := fun e => by have := (HV0.out.1 _ e.symm).2.1; omega
    have o2 : some w.heap.size ≠ (Value.slice a2 l2.length d2).ownBlock := fun e => by have := (HV2.out.1 _ e.symm).2.1; omega
    have o0' : some (w.heap.size + 1) ≠ (Value.slice a0 l0.length d0).ownBlock := fun e => by have := (HV0.out.1 _ e.symm).2.1; omega
    have o2' : some (w.heap.size + 1) ≠ (Value.slice a2 l2.length d2).ownBlock := fun e => by have := (HV2.out.1 _ e.symm).2.1; omega
    have z3 := hb3.size
    have b3 : w3.heap[w.heap.size]? = _ := (hf3 w.heap.size (by omega) o0 o2).trans bB
    have b3' : w3.heap[w.heap.size + 1]? = _ := (hf3 (w.heap.size + 1) (by omega) o0' o2').trans ((hBs _ (by omega)).trans B2.out)
    have hE3 := Kd.R_move HV1.out (w1 := w3) (fun k hk => by
      rw [hf3 k (by have := hk.2.2.1; omega) (fun e => hk.1 (by exact e)) (fun e => typed_ne hk.2.2.2 (HV2.out.1 _ e.symm).2.2.2), hBs k (by have := hk.2.1; omega)])
    have hD' := Kd.R_bound hD
    have hB3 : Below w.heap.size w w3 := hBB.trans (hb3.mono (by omega))
    obtain ⟨a0', d0', e0'⟩ := Kd.R_slice hD'
    subst e0'
    have HD := Lib.hid hD'
    have HRw := Lib.hid hRw
    have HE3 := Lib.hid hE3
    have HB3 := Lib.hid hB3
    have HF3 := Lib.hid hf3
    have C3 := Lib.hid b3
    have C3' := Lib.hid b3'
    have k3a := blk_cell b3 0
    have k3b := blk_cell b3 1
    have k3c := blk_cell b3 2
    have f3a := blk_frozen b3 0
    have f3b := blk_frozen b3 1
    have f3c := blk_frozen b3 2
    simp only [List.getElem?_toArray, List.getElem?_cons_zero, List.getElem?_cons_succ] at k3a k3b k3c
    have z3a : w.heap.size < w3.heap.size := by omega
    have z3b : w.heap.size + 1 < w3.heap.size := by omega
    clear hD hD' hRw hE3 hB3 hf3 b3 b3' k1a k1b k1c f1a f1b f1c bB hBs hBB hb3 o0 o2 o0' o2'
    dsimp only
    go_wp2_with fail
    have hCs : ∀ k, k ≠ w.heap.size → (w3.setCell ⟨w.heap.size, 0, none⟩ (.slice a0' (trimP r0 l0 l2).1.length d0')).heap[k]? = w3.heap[k]? := fun k h => Below.heap_setCell _ _ _ _ h
    have bC : (w3.setCell ⟨w.heap.size, 0, none⟩ (.slice a0' (trimP r0 l0 l2).1.length d0')).heap[w.heap.size]? = some (.cells #[.slice a0' (trimP r0 l0 l2).1.length d0', .slice a1 l1.length d1, .slice a2 l2.length d2] 30 (0, 0)) := blk_set C3.out 0 _
    have hBC : Below w.heap.size w (w3.setCell ⟨w.heap.size, 0, none⟩ (.slice a0' (trimP r0 l0 l2).1.length d0')) := HB3.out.setCell (p := ⟨w.heap.size, 0, none⟩) (Nat.le_refl _) _
    have hsC : (w3.setCell ⟨w.heap.size, 0, none⟩ (.slice a0' (trimP r0 l0 l2).1.length d0')).heap.size = w3.heap.size := by simp [World.setCell]
    generalize hwC : w3.setCell ⟨w.heap.size, 0, none⟩ (.slice a0' (trimP r0 l0 l2).1.length d0') = wC at *
    clear hwC
    have hC1 := Kd.R_reads' (Kd.R_move HE3.out (w1 := wC) (fun k hk => hCs k (by have := hk.2.1; omega)))
    have hcl1 := trim_calls a1 d1 l1 none 0 [] k1 r1 wC (w.heap.size + 2) (fun _ => False) hC1.2.2 hC1.2.1 (Kd.R_nil k37 37 wC _ _) HQ1.out hq1l f1 (by simp) (by omega) HW1.out (by intro x hx; cases hx)
    clear hC1
    refine hcl1.mono ?_
    clear hcl1
    rintro e w4 ⟨v1', rfl, hE, _, hb4, hf4'⟩
    have hf4 : ∀ k, k < wC.heap.size → some k ≠ (Value.slice a1 l1.length d1).ownBlock → some k ≠ (Value.slice none ([] : List S37).length 0).ownBlock → w4.heap[k]? = wC.heap[k]? := fun k a _ b => hf4' k a b
    clear hf4'
    change Kd.R k35 35 w4 wC.heap.size (fun _ => True) v1' (trimP r1 l1 []).1 at hE
    have o1 : some w.heap.size ≠ (Value.slice a1 l1.length d1).ownBlock := fun e => by have := (HV1.out.1 _ e.symm).2.1; omega
    have o1' : some (w.heap.size + 1) ≠ (Value.slice a1 l1.length d1).ownBlock := fun e => by have := (HV1.out.1 _ e.symm).2.1; omega
    have on : ∀ k : Nat, some k ≠ (Value.slice none ([] : List S37).length 0).ownBlock := fun k e => by simp [Value.ownBlock] at e
    have z4 := hb4.size
    have b4 : w4.heap[w.heap.size]? = _ := (hf4 w.heap.size (by omega) o1 (on _)).trans bC
    have b4' : w4.heap[w.heap.size + 1]? = _ := (hf4 (w.heap.size + 1) (by omega) o1' (on _)).trans ((hCs _ (by omega)).trans C3'.out)
    have hD4 := Kd.R_move HD.out (w1 := w4) (fun k hk => by
      rw [hf4 k (by have := hk.2.2.1; omega) (fun e => by have h1 := (HV1.out.1 _ e.symm).2.2.1; have h2 := hk.2.1; omega) (on _), hCs k (by have := hk.2.1; omega)])
    have hR4 := Kd.R_move HRw.out (w1 := w4) (fun k hk => by
      rw [hf4 k (by have := hk.2.2.1; omega) (fun e => typed_ne (HV1.out.1 _ e.symm).2.2.2 hk.2.2.2) (on _), hCs k (by have := hk.2.1; omega)])
    have hB4 : Below w.heap.size w w4 := hBC.trans (hb4.mono (by omega))
    obtain ⟨a1', d1', e1'⟩ := Kd.R_slice hE
    subst e1'
    have hne1 : ∀ k, wB.heap.size ≤ k → k < w3.heap.size → some k ≠ (Value.slice a1' (trimP r1 l1 []).1.length d1').ownBlock := fun k h1 h2 e => by
      have := ((Kd.R_bound hE).1 k e.symm).2.1; omega
    have hne0 : ∀ k, wC.heap.size ≤ k → some k ≠ (Value.slice a0' (trimP r0 l0 l2).1.length d0').ownBlock := fun k h1 e => by
      have := (HD.out.1 k e.symm).2.2.1; omega
    have HE := Lib.hid (Kd.R_bound hE)
    have HD4 := Lib.hid hD4
    have HR4 := Lib.hid hR4
    have HB4 := Lib.hid hB4
    have C4 := Lib.hid b4
    have C4' := Lib.hid b4'
    have HN0 := Lib.hid hne0
    have HN1 := Lib.hid hne1
    have k4a := blk_cell b4 0
    have k4b := blk_cell b4 1
    have k4c := blk_cell b4 2
    have f4a := blk_frozen b4 0
    have f4b := blk_frozen b4 1
    have f4c := blk_frozen b4 2
    have r4a := blk_cell b4' 0
    have r4b := blk_cell b4' 1
    have r4c := blk_cell b4' 2
    have g4a := blk_frozen b4' 0
    have g4b := blk_frozen b4' 1
    have g4c := blk_frozen b4' 2
    simp only [List.getElem?_toArray, List.getElem?_cons_zero, List.getElem?_cons_succ] at k4a k4b k4c r4a r4b r4c
    have z4a : w.heap.size < w4.heap.size := by omega
    have z4b : w.heap.size + 1 < w4.heap.size := by omega
    clear hE hD4 hR4 hB4 hf4 b4 b4' k3a k3b k3c f3a f3b f3c bC hCs hBC hb4 o1 o1' on hne0 hne1
    dsimp only
    go_wp2_with fail
    have hDs : ∀ k, k ≠ w.heap.size → (w4.setCell ⟨w.heap.size, 1, none⟩ (.slice a1' (trimP r1 l1 []).1.length d1')).heap[k]? = w4.heap[k]? := fun k h => Below.heap_setCell _ _ _ _ h
    have bD : (w4.setCell ⟨w.heap.size, 1, none⟩ (.slice a1' (trimP r1 l1 []).1.length d1')).heap[w.heap.size]? = some (.cells #[.slice a0' (trimP r0 l0 l2).1.length d0', .slice a1' (trimP r1 l1 []).1.length d1', .slice a2 l2.length d2] 30 (0, 0)) := blk_set C4.out 1 _
    have bD' := (hDs (w.heap.size + 1) (by omega)).trans C4'.out
    have hBD : Below w.heap.size w (w4.setCell ⟨w.heap.size, 1, none⟩ (.slice a1' (trimP r1 l1 []).1.length d1')) := HB4.out.setCell (p := ⟨w.heap.size, 1, none⟩) (Nat.le_refl _) _
    have hsD : (w4.setCell ⟨w.heap.size, 1, none⟩ (.slice a1' (trimP r1 l1 []).1.length d1')).heap.size = w4.heap.size := by simp [World.setCell]
    generalize hwD : w4.setCell ⟨w.heap.size, 1, none⟩ (.slice a1' (trimP r1 l1 []).1.length d1') = wD at *
    clear hwD
    have hD5 := Kd.R_move HD4.out (w1 := wD) (fun k hk => hDs k (by have := hk.2.1; omega))
    have hE5 := Kd.R_move HE.out (w1 := wD) (fun k hk => hDs k (by have := hk.2.1; omega))
    have hR5 := Kd.R_move HR4.out (w1 := wD) (fun k hk => hDs k (by have := hk.2.1; omega))
    refine (ContainsFunc_calls a0' d0' (trimP r0 l0 l2).1 wD (Kd.R_reads' hD5).2.2).mono ?_
    rintro e w5 ⟨rfl, hb5⟩
    have z5 := hb5.size
    have b5 := blk_below bD hb5
    have b5' := blk_below bD' hb5
    have HD5 := Lib.hid (Kd.R_below hD5 hb5)
    have HE5 := Lib.hid (Kd.R_below hE5 hb5)
    have hR5' := Kd.R_below hR5 hb5
    have hlr : (trimP r0 l0 l2).2.length = l2.length := List.length_map _
    have HB5 := Lib.hid (hBD.trans (hb5.mono (by omega)))
    have HR5 := Lib.hid hR5'
    clear hDs bD bD' hBD hD5 hE5 hR5 hb5 k4a k4b k4c f4a f4b f4c r4a r4b r4c g4a g4b g4c hlr
    have C5 := Lib.hid b5
    have C5' := Lib.hid b5'
    have k5a := blk_cell b5 0
    have k5b := blk_cell b5 1
    have k5c := blk_cell b5 2
    have f5a := blk_frozen b5 0
    have f5b := blk_frozen b5 1
    have f5c := blk_frozen b5 2
    have r5a := blk_cell b5' 0
    have r5b := blk_cell b5' 1
    have r5c := blk_cell b5' 2
    have g5a := blk_frozen b5' 0
    have g5b := blk_frozen b5' 1
    have g5c := blk_frozen b5' 2
    simp only [List.getElem?_toArray, List.getElem?_cons_zero, List.getElem?_cons_succ] at k5a k5b k5c r5a r5b r5c
    have z5a : w.heap.size < w5.heap.size := by omega
    have z5b : w.heap.size + 1 < w5.heap.size := by omega
    dsimp only
    cases hj : decide (0 ≤ jumpAt (trimP r0 l0 l2).1) with
    | true =>
      have htr : trimRows r0 l0 l2 = (trimP r0 l0 l2).2 := by unfold trimRows; rw [if_pos hj]
      have HTR := Lib.hid htr
      clear hj htr b5 b5'
      go_wp2_with fail
      have hZ : ∀ k, k ≠ w.heap.size + 1 → (((w5.setCell ⟨w.heap.size + 1, 0, none⟩ (.slice a0' (trimP r0 l0 l2).1.length d0')).setCell ⟨w.heap.size + 1, 1, none⟩ (.slice a1' (trimP r1 l1 []).1.length d1')).setCell ⟨w.heap.size + 1, 2, none⟩ (.slice a2 l2.length d2)).heap[k]? = w5.heap[k]? := fun k h2 => by
        rw [Below.heap_setCell _ _ _ _ h2, Below.heap_setCell _ _ _ _ h2, Below.heap_setCell _ _ _ _ h2]
      refine bodyPost_ret (results_cell_row rfl _ _ (w.heap.size + 1) 30 #[.slice a0' (trimP r0 l0 l2).1.length d0', .slice a1' (trimP r1 l1 []).1.length d1', .slice a2 l2.length d2] (0, 0) _ rfl (blk_set (blk_set (blk_set C5'.out 0 _) 1 _) 2 _) Try.underlying30 rfl (by kernel_rfl)) rfl ?_
      refine ⟨_, _, _, rfl, ?_, ?_, ?_, ?_⟩
      · exact Kd.R_lower (Kd.R_mono (Kd.R_move HD5.out (fun k hk => hZ k (by have := hk.2.1; omega))) (fun k hk => HN1.out k hk.2.1 hk.2.2.1)) (by omega)
      · exact Kd.R_lower (Kd.R_mono (Kd.R_move HE5.out (fun k hk => hZ k (by have := hk.2.1; omega))) (fun k hk => HN0.out k hk.2.1)) (by omega)
      · rw [HTR.out]
        exact Kd.R_lower (Kd.R_mono (Kd.R_move HR5.out (fun k hk => hZ k (by have := hk.2.1; omega))) (fun _ _ => trivial)) (by omega)
      · exact ((HB5.out.setCell (p := ⟨w.heap.size + 1, 0, none⟩) (by show w.heap.size ≤ w.heap.size + 1; omega) _).setCell (p := ⟨w.heap.size + 1, 1, none⟩) (by show w.heap.size ≤ w.heap.size + 1; omega) _).setCell (p := ⟨w.heap.size + 1, 2, none⟩) (by show w.heap.size ≤ w.heap.size + 1; omega) _
    | false =>
      have htr : trimRows r0 l0 l2 = [] := by unfold trimRows; rw [if_neg (by simp [hj])]
      obtain ⟨w6, hclr, hb6, hs6⟩ := clear_rows HR5.out
      have o2 : some w.heap.size ≠ (Value.slice a2 l2.length d2).ownBlock := fun e => by have := (HV2.out.1 _ e.symm).2.1; omega
      have o2' : some (w.heap.size + 1) ≠ (Value.slice a2 l2.length d2).ownBlock := fun e => by have := (HV2.out.1 _ e.symm).2.1; omega
      have z6 := hb6.size
      have c6 := (hs6 _ z5a o2).trans b5
      have c6' := (hs6 _ z5b o2').trans b5'
      have HD6 := Lib.hid (Kd.R_move (Kd.R_bound HD5.out) (w1 := w6) (fun k hk => hs6 k hk.2.2.1 (fun e => by have h1 := (HV2.out.1 _ e.symm).2.2.1; have h2 := hk.1.2.1; omega)))
      have HE6 := Lib.hid (Kd.R_move (Kd.R_bound HE5.out) (w1 := w6) (fun k hk => hs6 k hk.2.2.1 (fun e => by have h1 := (HV2.out.1 _ e.symm).2.2.1; have h2 := hk.1.2.1; omega)))
      have HB6 := Lib.hid (HB5.out.trans (hb6.mono (by omega)))
      have HTR := Lib.hid htr
      have C6' := Lib.hid c6'
      have k6a := blk_cell c6 0
      have k6b := blk_cell c6 1
      have k6c := blk_cell c6 2
      have f6a := blk_frozen c6 0
      have f6b := blk_frozen c6 1
      have f6c := blk_frozen c6 2
      have r6a := blk_cell c6' 0
      have r6b := blk_cell c6' 1
      have r6c := blk_cell c6' 2
      have g6a := blk_frozen c6' 0
      have g6b := blk_frozen c6' 1
      have g6c := blk_frozen c6' 2
      simp only [List.getElem?_toArray, List.getElem?_cons_zero, List.getElem?_cons_succ] at k6a k6b k6c r6a r6b r6c
      have z6a : w.heap.size < w6.heap.size := by omega
      have z6b : w.heap.size + 1 < w6.heap.size := by omega
      clear hj htr b5 b5' c6 c6' hb6 hs6 o2 o2'
      go_wp2_with (simp only [hclr])
      have hZ : ∀ k, k ≠ w.heap.size → k ≠ w.heap.size + 1 → ((((w6.setCell ⟨w.heap.size, 2, none⟩ (.slice none 0 0)).setCell ⟨w.heap.size + 1, 0, none⟩ (.slice a0' (trimP r0 l0 l2).1.length d0')).setCell ⟨w.heap.size + 1, 1, none⟩ (.slice a1' (trimP r1 l1 []).1.length d1')).setCell ⟨w.heap.size + 1, 2, none⟩ (.slice none 0 0)).heap[k]? = w6.heap[k]? := fun k h1 h2 => by
        rw [Below.heap_setCell _ _ _ _ h2, Below.heap_setCell _ _ _ _ h2, Below.heap_setCell _ _ _ _ h2, Below.heap_setCell _ _ _ _ h1]
      refine bodyPost_ret (results_cell_row rfl _ _ (w.heap.size + 1) 30 #[.slice a0' (trimP r0 l0 l2).1.length d0', .slice a1' (trimP r1 l1 []).1.length d1', .slice none 0 0] (0, 0) _ rfl (blk_set (blk_set (blk_set ((Below.heap_setCell _ _ _ _ (by show w.heap.size + 1 ≠ w.heap.size; omega)).trans C6'.out) 0 _) 1 _) 2 _) Try.underlying30 rfl (by kernel_rfl)) rfl ?_
      refine ⟨_, _, _, rfl, ?_, ?_, ?_, ?_⟩
      · exact Kd.R_lower (Kd.R_mono (Kd.R_move HD6.out (fun k hk => hZ k (by have := hk.1.2.1; omega) (by have := hk.1.2.1; omega))) (fun k hk => HN1.out k hk.1.2.1 hk.1.2.2.1)) (by omega)
      · exact Kd.R_lower (Kd.R_mono (Kd.R_move HE6.out (fun k hk => hZ k (by have := hk.1.2.1; omega) (by have := hk.1.2.1; omega))) (fun k hk => HN0.out k hk.1.2.1)) (by omega)
      · rw [HTR.out]; exact Kd.R_nil _ _ _ _ _
      · exact (((HB6.out.setCell (p := ⟨w.heap.size, 2, none⟩) (Nat.le_refl _) _).setCell (p := ⟨w.heap.size + 1, 0, none⟩) (by show w.heap.size ≤ w.heap.size + 1; omega) _).setCell (p := ⟨w.heap.size + 1, 1, none⟩) (by show w.heap.size ≤ w.heap.size + 1; omega) _).setCell (p := ⟨w.heap.size + 1, 2, none⟩) (by show w.heap.size ≤ w.heap.size + 1; omega) _
  · go_wp2_with fail
    clear t0 t1
    have hBs : ∀ k, k ≠ w.heap.size → (((w1.setCell ⟨w.heap.size, 0, none⟩ (.slice a0 l0.length d0)).setCell ⟨w.heap.size, 1, none⟩ (.slice a1 l1.length d1)).setCell ⟨w.heap.size, 2, none⟩ (.slice a2 l2.length d2)).heap[k]? = w1.heap[k]? := fun k h => by
      rw [Below.heap_setCell _ _ _ _ h, Below.heap_setCell _ _ _ _ h, Below.heap_setCell _ _ _ _ h]
    have bB : (((w1.setCell ⟨w.heap.size, 0, none⟩ (.slice a0 l0.length d0)).setCell ⟨w.heap.size, 1, none⟩ (.slice a1 l1.length d1)).setCell ⟨w.heap.size, 2, none⟩ (.slice a2 l2.length d2)).heap[w.heap.size]? = some (.cells #[.slice a0 l0.length d0, .slice a1 l1.length d1, .slice a2 l2.length d2] 30 (0, 0)) := blk_set (blk_set (blk_set B1.out 0 _) 1 _) 2 _
    have hBB : Below w.heap.size w (((w1.setCell ⟨w.heap.size, 0, none⟩ (.slice a0 l0.length d0)).setCell ⟨w.heap.size, 1, none⟩ (.slice a1 l1.length d1)).setCell ⟨w.heap.size, 2, none⟩ (.slice a2 l2.length d2)) := ((HBw.out.setCell (p := ⟨w.heap.size, 0, none⟩) (Nat.le_refl _) _).setCell (p := ⟨w.heap.size, 1, none⟩) (Nat.le_refl _) _).setCell (p := ⟨w.heap.size, 2, none⟩) (Nat.le_refl _) _
    have hsB : (((w1.setCell ⟨w.heap.size, 0, none⟩ (.slice a0 l0.length d0)).setCell ⟨w.heap.size, 1, none⟩ (.slice a1 l1.length d1)).setCell ⟨w.heap.size, 2, none⟩ (.slice a2 l2.length d2)).heap.size = w1.heap.size := by simp [World.setCell]
    generalize hwB : (((w1.setCell ⟨w.heap.size, 0, none⟩ (.slice a0 l0.length d0)).setCell ⟨w.heap.size, 1, none⟩ (.slice a1 l1.length d1)).setCell ⟨w.heap.size, 2, none⟩ (.slice a2 l2.length d2)) = wB at *
    clear hwB
    have hC0 := Kd.R_reads' (Kd.R_move HV0.out (w1 := wB) (fun k hk => hBs k (by have := hk.2.1; omega)))
    have hcl1 := trim_calls a0 d0 l0 a2 d2 l2 k0 r0 wB (w.heap.size + 2) _ hC0.2.2 hC0.2.1 (Kd.R_move HV2.out (fun k hk => hBs k (by have := hk.2.1; omega))) HQ0.out hq0l f0 (by omega) (by omega) HW0.out HW2.out
    clear hC0
    refine hcl1.mono ?_
    clear hcl1
    rintro e w3 ⟨v0', rfl, hD, hRw, hb3, hf3'⟩
    have hf3 : ∀ k, k < wB.heap.size → some k ≠ (Value.slice a0 l0.length d0).ownBlock → some k ≠ (Value.slice a2 l2.length d2).ownBlock → w3.heap[k]? = wB.heap[k]? := fun k a _ b => hf3' k a b
    clear hf3'
    change Kd.R k35 35 w3 wB.heap.size (fun _ => True) v0' (trimP r0 l0 l2).1 at hD
    change Kd.R k37 37 w3 (w.heap.size + 2) _ (.slice a2 l2.length d2) (trimP r0 l0 l2).2 at hRw
    have o0 : some w.heap.size ≠ (Value.slice a0 l0.length d0).ownBlock := fun e => by have := (HV0.out.1 _ e.symm).2.1; omega
    have o2 : some w.heap.size ≠ (Value.slice a2 l2.length d2).ownBlock := fun e => by have := (HV2.out.1 _ e.symm).2.1; omega
    have o0' : some (w.heap.size + 1) ≠ (Value.slice a0 l0.length d0).ownBlock := fun e => by have := (HV0.out.1 _ e.symm).2.1; omega
    have o2' : some (w.heap.size + 1) ≠ (Value.slice a2 l2.length d2).ownBlock := fun e => by have := (HV2.out.1 _ e.symm).2.1; omega
    have z3 := hb3.size
    have b3 : w3.heap[w.heap.size]? = _ := (hf3 w.heap.size (by omega) o0 o2).trans bB
    have b3' : w3.heap[w.heap.size + 1]? = _ := (hf3 (w.heap.size + 1) (by omega) o0' o2').trans ((hBs _ (by omega)).trans B2.out)
    have hE3 := Kd.R_move HV1.out (w1 := w3) (fun k hk => by
      rw [hf3 k (by have := hk.2.2.1; omega) (fun e => hk.1 (by exact e)) (fun e => typed_ne hk.2.2.2 (HV2.out.1 _ e.symm).2.2.2), hBs k (by have := hk.2.1; omega)])
    have hD' := Kd.R_bound hD
    have hB3 : Below w.heap.size w w3 := hBB.trans (hb3.mono (by omega))
    obtain ⟨a0', d0', e0'⟩ := Kd.R_slice hD'
    subst e0'
    have HD := Lib.hid hD'
    have HRw := Lib.hid hRw
    have HE3 := Lib.hid hE3
    have HB3 := Lib.hid hB3
    have HF3 := Lib.hid hf3
    have C3 := Lib.hid b3
    have C3' := Lib.hid b3'
    have k3a := blk_cell b3 0
    have k3b := blk_cell b3 1
    have k3c := blk_cell b3 2
    have f3a := blk_frozen b3 0
    have f3b := blk_frozen b3 1
    have f3c := blk_frozen b3 2
    simp only [List.getElem?_toArray, List.getElem?_cons_zero, List.getElem?_cons_succ] at k3a k3b k3c
    have z3a : w.heap.size < w3.heap.size := by omega
    have z3b : w.heap.size + 1 < w3.heap.size := by omega
    clear hD hD' hRw hE3 hB3 hf3 b3 b3' k1a k1b k1c f1a f1b f1c bB hBs hBB hb3 o0 o2 o0' o2'
    dsimp only
    go_wp2_with fail
    have hCs : ∀ k, k ≠ w.heap.size → (w3.setCell ⟨w.heap.size, 0, none⟩ (.slice a0' (trimP r0 l0 l2).1.length d0')).heap[k]? = w3.heap[k]? := fun k h => Below.heap_setCell _ _ _ _ h
    have bC : (w3.setCell ⟨w.heap.size, 0, none⟩ (.slice a0' (trimP r0 l0 l2).1.length d0')).heap[w.heap.size]? = some (.cells #[.slice a0' (trimP r0 l0 l2).1.length d0', .slice a1 l1.length d1, .slice a2 l2.length d2] 30 (0, 0)) := blk_set C3.out 0 _
    have hBC : Below w.heap.size w (w3.setCell ⟨w.heap.size, 0, none⟩ (.slice a0' (trimP r0 l0 l2).1.length d0')) := HB3.out.setCell (p := ⟨w.heap.size, 0, none⟩) (Nat.le_refl _) _
    have hsC : (w3.setCell ⟨w.heap.size, 0, none⟩ (.slice a0' (trimP r0 l0 l2).1.length d0')).heap.size = w3.heap.size := by simp [World.setCell]
    generalize hwC : w3.setCell ⟨w.heap.size, 0, none⟩ (.slice a0' (trimP r0 l0 l2).1.length d0') = wC at *
    clear hwC
    have hC1 := Kd.R_reads' (Kd.R_move HE3.out (w1 := wC) (fun k hk => hCs k (by have := hk.2.1; omega)))
    have hcl1 := trim_calls a1 d1 l1 none 0 [] k1 r1 wC (w.heap.size + 2) (fun _ => False) hC1.2.2 hC1.2.1 (Kd.R_nil k37 37 wC _ _) HQ1.out hq1l f1 (by simp) (by omega) HW1.out (by intro x hx; cases hx)
    clear hC1
    refine hcl1.mono ?_
    clear hcl1
    rintro e w4 ⟨v1', rfl, hE, _, hb4, hf4'⟩
    have hf4 : ∀ k, k < wC.heap.size → some k ≠ (Value.slice a1 l1.length d1).ownBlock → some k ≠ (Value.slice none ([] : List S37).length 0).ownBlock → w4.heap[k]? = wC.heap[k]? := fun k a _ b => hf4' k a b
    clear hf4'
    change Kd.R k35 35 w4 wC.heap.size (fun _ => True) v1' (trimP r1 l1 []).1 at hE
    have o1 : some w.heap.size ≠ (Value.slice a1 l1.length d1).ownBlock := fun e => by have := (HV1.out.1 _ e.symm).2.1; omega
    have o1' : some (w.heap.size + 1) ≠ (Value.slice a1 l1.length d1).ownBlock := fun e => by have := (HV1.out.1 _ e.symm).2.1; omega
    have on : ∀ k : Nat, some k ≠ (Value.slice none ([] : List S37).length 0).ownBlock := fun k e => by simp [Value.ownBlock] at e
    have z4 := hb4.size
    have b4 : w4.heap[w.heap.size]? = _ := (hf4 w.heap.size (by omega) o1 (on _)).trans bC
    have b4' : w4.heap[w.heap.size + 1]? = _ := (hf4 (w.heap.size + 1) (by omega) o1' (on _)).trans ((hCs _ (by omega)).trans C3'.out)
    have hD4 := Kd.R_move HD.out (w1 := w4) (fun k hk => by
      rw [hf4 k (by have := hk.2.2.1; omega) (fun e => by have h1 := (HV1.out.1 _ e.symm).2.2.1; have h2 := hk.2.1; omega) (on _), hCs k (by have := hk.2.1; omega)])
    have hR4 := Kd.R_move HRw.out (w1 := w4) (fun k hk => by
      rw [hf4 k (by have := hk.2.2.1; omega) (fun e => typed_ne (HV1.out.1 _ e.symm).2.2.2 hk.2.2.2) (on _), hCs k (by have := hk.2.1; omega)])
    have hB4 : Below w.heap.size w w4 := hBC.trans (hb4.mono (by omega))
    obtain ⟨a1', d1', e1'⟩ := Kd.R_slice hE
    subst e1'
    have hne1 : ∀ k, wB.heap.size ≤ k → k < w3.heap.size → some k ≠ (Value.slice a1' (trimP r1 l1 []).1.length d1').ownBlock := fun k h1 h2 e => by
      have := ((Kd.R_bound hE).1 k e.symm).2.1; omega
    have hne0 : ∀ k, wC.heap.size ≤ k → some k ≠ (Value.slice a0' (trimP r0 l0 l2).1.length d0').ownBlock := fun k h1 e => by
      have := (HD.out.1 k e.symm).2.2.1; omega
    have HE := Lib.hid (Kd.R_bound hE)
    have HD4 := Lib.hid hD4
    have HR4 := Lib.hid hR4
    have HB4 := Lib.hid hB4
    have C4 := Lib.hid b4
    have C4' := Lib.hid b4'
    have HN0 := Lib.hid hne0
    have HN1 := Lib.hid hne1
    have k4a := blk_cell b4 0
    have k4b := blk_cell b4 1
    have k4c := blk_cell b4 2
    have f4a := blk_frozen b4 0
    have f4b := blk_frozen b4 1
    have f4c := blk_frozen b4 2
    have r4a := blk_cell b4' 0
    have r4b := blk_cell b4' 1
    have r4c := blk_cell b4' 2
    have g4a := blk_frozen b4' 0
    have g4b := blk_frozen b4' 1
    have g4c := blk_frozen b4' 2
    simp only [List.getElem?_toArray, List.getElem?_cons_zero, List.getElem?_cons_succ] at k4a k4b k4c r4a r4b r4c
    have z4a : w.heap.size < w4.heap.size := by omega
    have z4b : w.heap.size + 1 < w4.heap.size := by omega
    clear hE hD4 hR4 hB4 hf4 b4 b4' k3a k3b k3c f3a f3b f3c bC hCs hBC hb4 o1 o1' on hne0 hne1
    dsimp only
    go_wp2_with fail
    have hDs : ∀ k, k ≠ w.heap.size → (w4.setCell ⟨w.heap.size, 1, none⟩ (.slice a1' (trimP r1 l1 []).1.length d1')).heap[k]? = w4.heap[k]? := fun k h => Below.heap_setCell _ _ _ _ h
    have bD : (w4.setCell ⟨w.heap.size, 1, none⟩ (.slice a1' (trimP r1 l1 []).1.length d1')).heap[w.heap.size]? = some (.cells #[.slice a0' (trimP r0 l0 l2).1.length d0', .slice a1' (trimP r1 l1 []).1.length d1', .slice a2 l2.length d2] 30 (0, 0)) := blk_set C4.out 1 _
    have bD' := (hDs (w.heap.size + 1) (by omega)).trans C4'.out
    have hBD : Below w.heap.size w (w4.setCell ⟨w.heap.size, 1, none⟩ (.slice a1' (trimP r1 l1 []).1.length d1')) := HB4.out.setCell (p := ⟨w.heap.size, 1, none⟩) (Nat.le_refl _) _
    have hsD : (w4.setCell ⟨w.heap.size, 1, none⟩ (.slice a1' (trimP r1 l1 []).1.length d1')).heap.size = w4.heap.size := by simp [World.setCell]
    generalize hwD : w4.setCell ⟨w.heap.size, 1, none⟩ (.slice a1' (trimP r1 l1 []).1.length d1') = wD at *
    clear hwD
    have hD5 := Kd.R_move HD4.out (w1 := wD) (fun k hk => hDs k (by have := hk.2.1; omega))
    have hE5 := Kd.R_move HE.out (w1 := wD) (fun k hk => hDs k (by have := hk.2.1; omega))
    have hR5 := Kd.R_move HR4.out (w1 := wD) (fun k hk => hDs k (by have := hk.2.1; omega))
    refine (ContainsFunc_calls a0' d0' (trimP r0 l0 l2).1 wD (Kd.R_reads' hD5).2.2).mono ?_
    rintro e w5 ⟨rfl, hb5⟩
    have z5 := hb5.size
    have b5 := blk_below bD hb5
    have b5' := blk_below bD' hb5
    have HD5 := Lib.hid (Kd.R_below hD5 hb5)
    have HE5 := Lib.hid (Kd.R_below hE5 hb5)
    have hR5' := Kd.R_below hR5 hb5
    have hlr : (trimP r0 l0 l2).2.length = l2.length := List.length_map _
    have HB5 := Lib.hid (hBD.trans (hb5.mono (by omega)))
    have HR5 := Lib.hid hR5'
    clear hDs bD bD' hBD hD5 hE5 hR5 hb5 k4a k4b k4c f4a f4b f4c r4a r4b r4c g4a g4b g4c hlr
    have C5 := Lib.hid b5
    have C5' := Lib.hid b5'
    have k5a := blk_cell b5 0
    have k5b := blk_cell b5 1
    have k5c := blk_cell b5 2
    have f5a := blk_frozen b5 0
    have f5b := blk_frozen b5 1
    have f5c := blk_frozen b5 2
    have r5a := blk_cell b5' 0
    have r5b := blk_cell b5' 1
    have r5c := blk_cell b5' 2
    have g5a := blk_frozen b5' 0
    have g5b := blk_frozen b5' 1
    have g5c := blk_frozen b5' 2
    simp only [List.getElem?_toArray, List.getElem?_cons_zero, List.getElem?_cons_succ] at k5a k5b k5c r5a r5b r5c
    have z5a : w.heap.size < w5.heap.size := by omega
    have z5b : w.heap.size + 1 < w5.heap.size := by omega
    dsimp only
    cases hj : decide (0 ≤ jumpAt (trimP r0 l0 l2).1) with
    | true =>
      have htr : trimRows r0 l0 l2 = (trimP r0 l0 l2).2 := by unfold trimRows; rw [if_pos hj]
      have HTR := Lib.hid htr
      clear hj htr b5 b5'
      go_wp2_with fail
      have hZ : ∀ k, k ≠ w.heap.size + 1 → (((w5.setCell ⟨w.heap.size + 1, 0, none⟩ (.slice a0' (trimP r0 l0 l2).1.length d0')).setCell ⟨w.heap.size + 1, 1, none⟩ (.slice a1' (trimP r1 l1 []).1.length d1')).setCell ⟨w.heap.size + 1, 2, none⟩ (.slice a2 l2.length d2)).heap[k]? = w5.heap[k]? := fun k h2 => by
        rw [Below.heap_setCell _ _ _ _ h2, Below.heap_setCell _ _ _ _ h2, Below.heap_setCell _ _ _ _ h2]
      refine bodyPost_ret (results_cell_row rfl _ _ (w.heap.size + 1) 30 #[.slice a0' (trimP r0 l0 l2).1.length d0', .slice a1' (trimP r1 l1 []).1.length d1', .slice a2 l2.length d2] (0, 0) _ rfl (blk_set (blk_set (blk_set C5'.out 0 _) 1 _) 2 _) Try.underlying30 rfl (by kernel_rfl)) rfl ?_
      refine ⟨_, _, _, rfl, ?_, ?_, ?_, ?_⟩
      · exact Kd.R_lower (Kd.R_mono (Kd.R_move HD5.out (fun k hk => hZ k (by have := hk.2.1; omega))) (fun k hk => HN1.out k hk.2.1 hk.2.2.1)) (by omega)
      · exact Kd.R_lower (Kd.R_mono (Kd.R_move HE5.out (fun k hk => hZ k (by have := hk.2.1; omega))) (fun k hk => HN0.out k hk.2.1)) (by omega)
      · rw [HTR.out]
        exact Kd.R_lower (Kd.R_mono (Kd.R_move HR5.out (fun k hk => hZ k (by have := hk.2.1; omega))) (fun _ _ => trivial)) (by omega)
      · exact ((HB5.out.setCell (p := ⟨w.heap.size + 1, 0, none⟩) (by show w.heap.size ≤ w.heap.size + 1; omega) _).setCell (p := ⟨w.heap.size + 1, 1, none⟩) (by show w.heap.size ≤ w.heap.size + 1; omega) _).setCell (p := ⟨w.heap.size + 1, 2, none⟩) (by show w.heap.size ≤ w.heap.size + 1; omega) _
    | false =>
      have htr : trimRows r0 l0 l2 = [] := by unfold trimRows; rw [if_neg (by simp [hj])]
      obtain ⟨w6, hclr, hb6, hs6⟩ := clear_rows HR5.out
      have o2 : some w.heap.size ≠ (Value.slice a2 l2.length d2).ownBlock := fun e => by have := (HV2.out.1 _ e.symm).2.1; omega
      have o2' : some (w.heap.size + 1) ≠ (Value.slice a2 l2.length d2).ownBlock := fun e => by have := (HV2.out.1 _ e.symm).2.1; omega
      have z6 := hb6.size
      have c6 := (hs6 _ z5a o2).trans b5
      have c6' := (hs6 _ z5b o2').trans b5'
      have HD6 := Lib.hid (Kd.R_move (Kd.R_bound HD5.out) (w1 := w6) (fun k hk => hs6 k hk.2.2.1 (fun e => by have h1 := (HV2.out.1 _ e.symm).2.2.1; have h2 := hk.1.2.1; omega)))
      have HE6 := Lib.hid (Kd.R_move (Kd.R_bound HE5.out) (w1 := w6) (fun k hk => hs6 k hk.2.2.1 (fun e => by have h1 := (HV2.out.1 _ e.symm).2.2.1; have h2 := hk.1.2.1; omega)))
      have HB6 := Lib.hid (HB5.out.trans (hb6.mono (by omega)))
      have HTR := Lib.hid htr
      have C6' := Lib.hid c6'
      have k6a := blk_cell c6 0
      have k6b := blk_cell c6 1
      have k6c := blk_cell c6 2
      have f6a := blk_frozen c6 0
      have f6b := blk_frozen c6 1
      have f6c := blk_frozen c6 2
      have r6a := blk_cell c6' 0
      have r6b := blk_cell c6' 1
      have r6c := blk_cell c6' 2
      have g6a := blk_frozen c6' 0
      have g6b := blk_frozen c6' 1
      have g6c := blk_frozen c6' 2
      simp only [List.getElem?_toArray, List.getElem?_cons_zero, List.getElem?_cons_succ] at k6a k6b k6c r6a r6b r6c
      have z6a : w.heap.size < w6.heap.size := by omega
      have z6b : w.heap.size + 1 < w6.heap.size := by omega
      clear hj htr b5 b5' c6 c6' hb6 hs6 o2 o2'
      go_wp2_with (simp only [hclr])
      have hZ : ∀ k, k ≠ w.heap.size → k ≠ w.heap.size + 1 → ((((w6.setCell ⟨w.heap.size, 2, none⟩ (.slice none 0 0)).setCell ⟨w.heap.size + 1, 0, none⟩ (.slice a0' (trimP r0 l0 l2).1.length d0')).setCell ⟨w.heap.size + 1, 1, none⟩ (.slice a1' (trimP r1 l1 []).1.length d1')).setCell ⟨w.heap.size + 1, 2, none⟩ (.slice none 0 0)).heap[k]? = w6.heap[k]? := fun k h1 h2 => by
        rw [Below.heap_setCell _ _ _ _ h2, Below.heap_setCell _ _ _ _ h2, Below.heap_setCell _ _ _ _ h2, Below.heap_setCell _ _ _ _ h1]
      refine bodyPost_ret (results_cell_row rfl _ _ (w.heap.size + 1) 30 #[.slice a0' (trimP r0 l0 l2).1.length d0', .slice a1' (trimP r1 l1 []).1.length d1', .slice none 0 0] (0, 0) _ rfl (blk_set (blk_set (blk_set ((Below.heap_setCell _ _ _ _ (by show w.heap.size + 1 ≠ w.heap.size; omega)).trans C6'.out) 0 _) 1 _) 2 _) Try.underlying30 rfl (by kernel_rfl)) rfl ?_
      refine ⟨_, _, _, rfl, ?_, ?_, ?_, ?_⟩
      · exact Kd.R_lower (Kd.R_mono (Kd.R_move HD6.out (fun k hk => hZ k (by have := hk.1.2.1; omega) (by have := hk.1.2.1; omega))) (fun k hk => HN1.out k hk.1.2.1 hk.1.2.2.1)) (by omega)
      · exact Kd.R_lower (Kd.R_mono (Kd.R_move HE6.out (fun k hk => hZ k (by have := hk.1.2.1; omega) (by have := hk.1.2.1; omega))) (fun k hk => HN0.out k hk.1.2.1)) (by omega)
      · rw [HTR.out]; exact Kd.R_nil _ _ _ _ _
      · exact (((HB6.out.setCell (p := ⟨w.heap.size, 2, none⟩) (Nat.le_refl _) _).setCell (p := ⟨w.heap.size + 1, 0, none⟩) (by show w.heap.size ≤ w.heap.size + 1; omega) _).setCell (p := ⟨w.heap.size + 1, 1, none⟩) (by show w.heap.size ≤ w.heap.size + 1; omega) _).setCell (p := ⟨w.heap.size + 1, 2, none⟩) (by show w.heap.size ≤ w.heap.size + 1; omega) _
end Go.Proofs.Ytedghbjmhcgilaa.A
end
