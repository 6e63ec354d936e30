import Derived.OwnWalk
import Derived.Lib.Hide
import Derived.Deep.RegionHeld3
import Derived.Test.YtedghbjmhcgilaaKt20
section
namespace Go.Proofs.Ytedghbjmhcgilaa.A
open Go.RowKit Go.Shelf Go.Maps Go.Proofs.YtedghbjmhcgilaaW.PrintWords Go.Proofs.YtedghbjmhcgilaaW.PrintLast Go.Proofs.YtedghbjmhcgilaaW.PrintMore
open Go.Proofs.Ytedghbjmhcgilaa.POpt
attribute [local go_sem] Oper.semAt_some
set_option linter.unusedVariables false
set_option linter.unusedSimpArgs false
set_option maxRecDepth 100000 in
set_option maxHeartbeats 0 in
theorem reg7 (K : Act → World → Prop) (Q' : Exit → Act → World → Prop) (ad : Addr) (bn c i gp g5 : Nat) (W : World) (A : Option Addr) (c0 : Nat) (l1 : List S35) (B0 : Option Addr) (d0 : Nat) (l0 : List S35)
    (u14 u15 u16 u17 u18 u19 u20 u21 u22 u23 u24 u25 u26 u27 u28 u29 u30 u31 u32 u33 u34 u35 u36 u37 u38 u39 u40 u41 u42 u43 u44 u45 u46 u47 u48 u49 u50 : Value) (hs0 : (0 : Int) ≤ (i : Int)) (hiz : (i : Int) < (bn : Int)) (hn : l1.length ≤ 1048576) (hgp : gp < g5) (hfa : (ad.add (i * 3)).block < g5)
    (HP : Hid (W.heap[g5]? = some (.cells #[.slice B0 l0.length d0, .slice none 0 0, .slice none 0 0] 30 (0, 0)))) (hlt : g5 < W.heap.size) (hu : W.cell? ⟨gp, 0, none⟩ = some (.slice (some ad) bn c)) (hk : W.cell? ⟨(ad.add (i * 3)).block, (ad.add (i * 3)).off + 1, none⟩ = some (.slice A l1.length c0)) (RC : Hid (Kd.C k35 W A l1.length l1))
    (hK : Hid (∀ (wc : World) (v51 v52 v53 v54 v55 v56 v57 v58 v59 v60 v61 v62 v63 v64 v65 v66 v67 v68 v69 v70 v71 : Value), (∃ A3 c3, Hid (wc.heap[g5]? = some (.cells #[.slice B0 l0.length d0, .slice A3 l1.length c3, .slice none 0 0] 30 (0, 0))) ∧ Hid (Kd.R k35 35 wc W.heap.size (fun _ => True) (.slice A3 (l1.length + 1) c3) (l1 ++ [⟨98, 0, 0, 0, 0⟩])) ∧ Hid (Below g5 W wc) ∧ Hid (∀ k, k < W.heap.size → k ≠ g5 → wc.heap[k]? = W.heap[k]?)) → K { tmps := #[.agg #[.slice (some ad) bn c], .int .i64 (i : Int), .pointer (some ⟨gp, 0, none⟩), undef, .bool false, .pointer (some ⟨g5, 0, none⟩), undef, undef, undef, undef, undef, undef, undef, undef, u14, u15, u16, u17, u18, u19, u20, u21, u22, u23, u24, u25, u26, u27, u28, u29, u30, u31, u32, u33, u34, u35, u36, u37, u38, u39, u40, u41, u42, u43, u44, u45, u46, u47, u48, u49, u50, v51, v52, v53, v54, v55, v56, v57, v58, v59, v60, v61, v62, v63, v64, v65, v66, v67, v68, v69, v70, v71, undef, undef, undef, undef, undef, undef, undef, undef, undef, undef, undef, undef, undef, undef, undef, undef, undef, undef, undef, undef, undef, undef, undef, undef, undef, undef, undef, undef, undef, undef, undef, undef, undef, undef, undef, undef, undef, undef, undef, undef, undef, undef, undef, undef, undef, undef, undef, undef, undef, undef, undef, undef, undef, undef, undef, undef, undef, undef, undef, undef, undef, undef, undef, undef, undef, undef, undef, undef, undef, undef, undef, undef, undef, undef, undef, undef, undef, undef, undef, undef, undef, undef, undef, undef, undef, undef, undef, undef, undef, undef, undef, undef, undef, undef, undef, undef, undef, undef, undef, undef, undef, undef, undef, undef, undef, undef, undef, undef, undef, undef, undef, undef, undef, undef, undef, undef, undef, undef, undef, undef, undef, undef, undef, undef, undef, undef, undef, undef, undef, undef, undef, undef, undef, undef, undef, undef, undef, undef, undef, undef, undef, undef, undef, undef, undef, undef, undef, undef, undef, undef, undef, undef, undef, undef, undef, undef, undef, undef, undef, undef, undef, undef, undef, undef, undef, undef], defers := [] } wc)) :
    Code.wp Try.prog (reg4 7) (Exit.then K Q') { tmps := #[.agg #[.slice (some ad) bn c], .int .i64 (i : Int), .pointer (some ⟨gp, 0, none⟩), undef, .bool false, .pointer (some ⟨g5, 0, none⟩), undef, undef, undef, undef, undef, undef, undef, undef, u14, u15, u16, u17, u18, u19, u20, u21, u22, u23, u24, u25, u26, u27, u28, u29, u30, u31, u32, u33, u34, u35, u36, u37, u38, u39, u40, u41, u42, u43, u44, u45, u46, u47, u48, u49, u50, undef, undef, undef, undef, undef, undef, undef, undef, undef, undef, undef, undef, undef, undef, undef, undef, undef, undef, undef, undef, undef, undef, undef, undef, undef, undef, undef, undef, undef, undef, undef, undef, undef, undef, undef, undef, undef, undef, undef, undef, undef, undef, undef, undef, undef, undef, undef, undef, undef, undef, undef, undef, undef, undef, undef, undef, undef, undef, undef, undef, undef, undef, undef, undef, undef, undef, undef, undef, undef, undef, undef, undef, undef, undef, undef, undef, undef, undef, undef, undef, undef, undef, undef, undef, undef, undef, undef, undef, undef, undef, undef, undef, undef, undef, undef, undef, undef, undef, undef, undef, undef, undef, undef, undef, undef, undef, undef, undef, undef, undef, undef, undef, undef, undef, undef, undef, undef, undef, undef, undef, undef, undef, undef, undef, undef, undef, undef, undef, undef, undef, undef, undef, undef, undef, undef, undef, undef, undef, undef, undef, undef, undef, undef, undef, undef, undef, undef, undef, undef, undef, undef, undef, undef, undef, undef, undef, undef, undef, undef, undef, undef, undef, undef, undef, undef, undef, undef, undef, undef, undef, undef, undef, undef, undef, undef, undef, undef, undef, undef, undef, undef, undef, undef, undef, undef, undef, undef], defers := [] } W := by
  conv => arg 2; whnf
  have hne1 : g5 ≠ gp := by omega
  have hne2 : g5 ≠ (ad.add (i * 3)).block := by omega
  have yo := blk_cell HP.out 1
  have fo := blk_frozen HP.out 1
  simp only [List.getElem?_toArray, List.getElem?_cons_zero, List.getElem?_cons_succ] at yo
  refine wp_region_noPanic ?_
  refine wp_region_held_drew (S := (fun w' => w'.cell? ⟨gp, 0, none⟩ = some (.slice (some ad) bn c) ∧ w'.cell? ⟨(ad.add (i * 3)).block, (ad.add (i * 3)).off + 1, none⟩ = some (.slice A l1.length c0))) (by kernel_rfl) ?_ (fun hHeld => ?_)
  · (try dsimp only)
    go_keep
  refine wpAnyH_take (i := 0) (oi := _) (v := ?_) rfl (by kernel_rfl) (by kernel_rfl) (by kernel_rfl) (fun _ _ _ h => h) (Or.inl ⟨by rfl, ?_⟩) (by assumption) ?_
  rotate_left 1
  · (intro w hSw; (try dsimp only at hSw); go_simp)
    all_goals (with_reducible rfl)
  (try simp only [Act.put, List.setIfInBounds_toArray, List.set_cons_zero, List.set_cons_succ])
  refine wpAnyH_take (i := 2) (oi := _) (v := ?_) rfl (by kernel_rfl) (by kernel_rfl) (by kernel_rfl) (fun _ _ _ h => h) (Or.inl ⟨by rfl, ?_⟩) (by assumption) ?_
  rotate_left 1
  · (intro w hSw; (try dsimp only at hSw); go_simp)
    all_goals (with_reducible rfl)
  (try simp only [Act.put, List.setIfInBounds_toArray, List.set_cons_zero, List.set_cons_succ])
  refine wpAnyH_take (i := 3) (oi := _) (v := ?_) rfl (by kernel_rfl) (by kernel_rfl) (by kernel_rfl) (fun _ _ _ h => h) (Or.inl ⟨by rfl, ?_⟩) (by assumption) ?_
  rotate_left 1
  · (intro w hSw; (try dsimp only at hSw); go_simp)
    all_goals (with_reducible rfl)
  (try simp only [Act.put, List.setIfInBounds_toArray, List.set_cons_zero, List.set_cons_succ])
  refine wpAnyH_take (i := 4) (oi := _) (v := ?_) rfl (by kernel_rfl) (by kernel_rfl) (by kernel_rfl) (fun _ _ _ h => h) (Or.inl ⟨by rfl, ?_⟩) (by assumption) ?_
  rotate_left 1
  · (intro w hSw; (try dsimp only at hSw); go_simp)
    all_goals (with_reducible rfl)
  (try simp only [Act.put, List.setIfInBounds_toArray, List.set_cons_zero, List.set_cons_succ])
  refine wpAnyH_take (i := 5) (oi := _) (v := ?_) rfl (by kernel_rfl) (by kernel_rfl) (by kernel_rfl) (fun _ _ _ h => h) (Or.inl ⟨by rfl, ?_⟩) (by assumption) ?_
  rotate_left 1
  · (intro w hSw; (try dsimp only at hSw); go_simp)
    all_goals (with_reducible rfl)
  (try simp only [Act.put, List.setIfInBounds_toArray, List.set_cons_zero, List.set_cons_succ])
  refine wpAnyH_take (i := 6) (oi := _) (v := ?_) rfl (by kernel_rfl) (by kernel_rfl) (by kernel_rfl) (fun _ _ _ h => h) (Or.inl ⟨by rfl, ?_⟩) (by assumption) ?_
  rotate_left 1
  · (intro w hSw; (try dsimp only at hSw); go_simp)
    all_goals (with_reducible rfl)
  (try simp only [Act.put, List.setIfInBounds_toArray, List.set_cons_zero, List.set_cons_succ])
  refine wpAnyH_take (i := 7) (oi := _) (v := ?_) rfl (by kernel_rfl) (by kernel_rfl) (by kernel_rfl) (fun _ _ _ h => h) (Or.inl ⟨by rfl, ?_⟩) (by assumption) ?_
  rotate_left 1
  · (intro w hSw; (try dsimp only at hSw); go_simp)
    all_goals (with_reducible rfl)
  (try simp only [Act.put, List.setIfInBounds_toArray, List.set_cons_zero, List.set_cons_succ])
  refine wpAnyH_take (i := 9) (oi := _) (v := ?_) rfl (by kernel_rfl) (by kernel_rfl) (by kernel_rfl) (fun _ _ _ h => h) (Or.inl ⟨by rfl, ?_⟩) (by assumption) ?_
  rotate_left 1
  · (intro w hSw; (try dsimp only at hSw); go_simp)
    all_goals (with_reducible rfl)
  (try simp only [Act.put, List.setIfInBounds_toArray, List.set_cons_zero, List.set_cons_succ])
  refine wpAnyH_take (i := 12) (oi := _) (v := ?_) rfl (by kernel_rfl) (by kernel_rfl) (by kernel_rfl) (fun _ _ _ h => h) (Or.inl ⟨by rfl, ?_⟩) (by assumption) ?_
  rotate_left 1
  · (intro w hSw; (try dsimp only at hSw); go_simp)
    all_goals (with_reducible rfl)
  (try simp only [Act.put, List.setIfInBounds_toArray, List.set_cons_zero, List.set_cons_succ])
  refine wpAnyH_take (i := 13) (oi := _) (v := ?_) rfl (by kernel_rfl) (by kernel_rfl) (by kernel_rfl) (fun _ _ _ h => h) (Or.inl ⟨by rfl, ?_⟩) (by assumption) ?_
  rotate_left 1
  · (intro w hSw; (try dsimp only at hSw); go_simp)
    all_goals (with_reducible rfl)
  (try simp only [Act.put, List.setIfInBounds_toArray, List.set_cons_zero, List.set_cons_succ])
  refine wpAnyH_take (i := 14) (oi := _) (v := ?_) rfl (by kernel_rfl) (by kernel_rfl) (by kernel_rfl) (fun _ _ _ h => h) (Or.inl ⟨by rfl, ?_⟩) (by assumption) ?_
  rotate_left 1
  · (intro w hSw; (try dsimp only at hSw); go_simp)
    all_goals (with_reducible rfl)
  (try simp only [Act.put, List.setIfInBounds_toArray, List.set_cons_zero, List.set_cons_succ])
  refine wpAnyH_take (i := 15) (oi := _) (v := ?_) rfl (by kernel_rfl) (by kernel_rfl) (by kernel_rfl) (fun _ _ _ h => h) (Or.inl ⟨by rfl, ?_⟩) (by assumption) ?_
  rotate_left 1
  · (intro w hSw; (try dsimp only at hSw); go_simp)
    all_goals (with_reducible rfl)
  (try simp only [Act.put, List.setIfInBounds_toArray, List.set_cons_zero, List.set_cons_succ])
  refine wpAnyH_take (i := 16) (oi := _) (v := ?_) rfl (by kernel_rfl) (by kernel_rfl) (by kernel_rfl) (fun _ _ _ h => h) (Or.inl ⟨by rfl, ?_⟩) (by assumption) ?_
  rotate_left 1
  · (intro w hSw; (try dsimp only at hSw); go_simp)
    all_goals (with_reducible rfl)
  (try simp only [Act.put, List.setIfInBounds_toArray, List.set_cons_zero, List.set_cons_succ])
  refine wpAnyH_take (i := 17) (oi := _) (v := ?_) rfl (by kernel_rfl) (by kernel_rfl) (by kernel_rfl) (fun _ _ _ h => h) (Or.inl ⟨by rfl, ?_⟩) (by assumption) ?_
  rotate_left 1
  · (intro w hSw; (try dsimp only at hSw); go_simp)
    all_goals (with_reducible rfl)
  (try simp only [Act.put, List.setIfInBounds_toArray, List.set_cons_zero, List.set_cons_succ])
  refine wpAnyH_take (i := 18) (oi := _) (v := ?_) rfl (by kernel_rfl) (by kernel_rfl) (by kernel_rfl) (fun _ _ _ h => h) (Or.inl ⟨by rfl, ?_⟩) (by assumption) ?_
  rotate_left 1
  · (intro w hSw; (try dsimp only at hSw); go_simp)
    all_goals (with_reducible rfl)
  (try simp only [Act.put, List.setIfInBounds_toArray, List.set_cons_zero, List.set_cons_succ])
  refine wpAnyH_ready (rs := [1, 10]) (by kernel_rfl) (by simp) ?_
  refine AllReadyH.cons rfl (fun K hK => ?_) ?_
  ·
    go_simp
    refine hK.out _ _ ?_ (fun hHeld => ?_)
    · (try dsimp only)
      go_keep
    clear hK K
    (try simp only [Act.put, List.setIfInBounds_toArray, List.set_cons_zero, List.set_cons_succ])
    refine wpAnyH_ready (rs := [8, 10]) (by kernel_rfl) (by simp) ?_
    refine AllReadyH.cons rfl (fun K hK => ?_) ?_
    ·
      (refine Kd.R_append_rows_step k35 (w0 := W) (Rr := k35.K _) W.heap.size (by rfl) (.tmp 52) (.tmp 58) 27 35 (.agg #[(.int .i64 0), (.int .i64 0), (.int .i64 0), (.int .i64 0), (.int .i64 0)]) 40 (by rfl) Try.underlying27 info35 (by rfl) (by decide) (by omega) (.slice none 0 0) [] l1 A l1.length c0 (fun _ => True) (fun _ => False) (by rfl) (by rfl) (Kd.R_nil _ _ _ _ _) (Kd.C_below RC.out (by repeat (first | exact Below.refl _ _ | apply below_drew1 | (refine Below.alloc ?_ (by first | omega | (simp; done) | (simp; omega)) _)))) (fun x cs hx => by rw [k35_open hx]; exact k35_mkM _ _ _ x) (fun _ hk => hk.elim) (fun _ _ => trivial) (by repeat (first | exact Below.refl _ _ | apply below_drew1 | (refine Below.alloc ?_ (by first | omega | (simp; done) | (simp; omega)) _))) (by simp) (by simp; omega) ?_;
       intro v3 w3 ho3 hb3 hg3 hat3;
       obtain ⟨A3, c3, e3⟩ := Kd.R_slice ho3; subst e3;
       (try (have hX3 : w3.heap[W.heap.size]? = some (.cells #[.int .i64 98, .int .i64 0, .int .i64 0, .int .i64 0, .int .i64 0] 35 (0, 0)) := blk_grown (show (W.drew.alloc (.cells #[.int .i64 98, .int .i64 0, .int .i64 0, .int .i64 0, .int .i64 0] 35)).heap[W.heap.size]? = _ by simpa using blk_new W.drew (.cells #[.int .i64 98, .int .i64 0, .int .i64 0, .int .i64 0, .int .i64 0] 35)) hg3 (by simp [Value.ownBlock])));
       have hz3 := hb3.size;
       have P3 := (hb3.block g5 hlt).trans HP.out;
       (have y3 := blk_cell P3 1; have f3 := blk_frozen P3 1; simp only [List.getElem?_toArray, List.getElem?_cons_zero, List.getElem?_cons_succ] at y3);
       have u3 := (World.cell?_of_block (a := ⟨gp, 0, none⟩) (hb3.block gp (by omega))).trans hu;
       have k3 := (World.cell?_of_block (a := ⟨(ad.add (i * 3)).block, (ad.add (i * 3)).off + 1, none⟩) (hb3.block (ad.add (i * 3)).block (by omega))).trans hk;
       have HO3 := Lib.hid ho3; have HB3 := Lib.hid hb3; clear ho3 hb3 hg3 hat3 P3)
      refine hK.out _ _ ?_ (fun hHeld => ?_)
      · (try dsimp only)
        go_keep
      clear hK K
      (try simp only [Act.put, List.setIfInBounds_toArray, List.set_cons_zero, List.set_cons_succ])
      refine wpAnyH_ready (rs := [10]) (by kernel_rfl) (by simp) ?_
      refine AllReadyH.cons rfl (fun K hK => ?_) ?_
      ·
        go_simp
        refine hK.out _ _ ?_ (fun hHeld => ?_)
        · (try dsimp only)
          go_keep
        clear hK K
        (try simp only [Act.put, List.setIfInBounds_toArray, List.set_cons_zero, List.set_cons_succ])
        refine wpAnyH_ready (rs := [11]) (by kernel_rfl) (by simp) ?_
        refine AllReadyH.cons rfl (fun K hK => ?_) ?_
        ·
          ((first
           | (refine Kd.R_append_rows_step k35 (w0 := W) (Rr := k35.K _) W.heap.size (by rfl) (.tmp 59) (.tmp 61) 27 35 (.agg #[(.int .i64 0), (.int .i64 0), (.int .i64 0), (.int .i64 0), (.int .i64 0)]) 40 (by rfl) Try.underlying27 info35 (by rfl) (by decide) (by omega) (.slice A3 ([] ++ l1).length c3) ([] ++ l1) [⟨98, 0, 0, 0, 0⟩] (some ⟨w3.heap.size, 0, none⟩) 1 1 (fun _ => True) (fun _ => False) (by rfl) (by rfl) (Kd.R_below HO3.out (Below.alloc (Below.refl _ _) (Nat.le_refl _) _)) (one_row (k35_mk _ ⟨98, 0, 0, 0, 0⟩) (blk_new _ _)) (fun x cs hx => by rw [k35_open hx]; exact k35_mkM _ _ _ x) (fun _ hk => hk.elim) (fun _ _ => trivial) (HB3.out.alloc (by omega) _) (by simp; omega) (by simp; omega) ?_)
           | (refine Kd.R_append_rows_step k35 (w0 := W) (Rr := k35.K _) W.heap.size (by rfl) (.tmp 59) (.tmp 61) 27 35 (.agg #[(.int .i64 0), (.int .i64 0), (.int .i64 0), (.int .i64 0), (.int .i64 0)]) 40 (by rfl) Try.underlying27 info35 (by rfl) (by decide) (by omega) (.slice A3 ([] ++ l1).length c3) ([] ++ l1) [⟨98, 0, 0, 0, 0⟩] (some ⟨W.heap.size, 0, none⟩) 1 1 (fun _ => True) (fun _ => False) (by rfl) (by first | rfl | simp) HO3.out (one_row (k35_mk _ ⟨98, 0, 0, 0, 0⟩) hX3) (fun x cs hx => by rw [k35_open hx]; exact k35_mkM _ _ _ x) (fun _ hk => hk.elim) (fun _ _ => trivial) HB3.out (by omega) (by simp; omega) ?_));
           intro v4 w4 ho4 hb4 hg4 hat4;
           obtain ⟨A4, c4, e4, hc4, _⟩ := Kd.R_reads ho4; subst e4;
           (simp only [List.nil_append, List.length_append, List.length_singleton, List.length_nil, List.length_cons, Nat.zero_add] at hc4 ho4 ⊢);
           have hz4 := hb4.size;
           have P4 := (hb4.block g5 hlt).trans HP.out;
           (have y4 := blk_cell P4 1; have f4 := blk_frozen P4 1; simp only [List.getElem?_toArray, List.getElem?_cons_zero, List.getElem?_cons_succ] at y4);
           have u4 := (World.cell?_of_block (a := ⟨gp, 0, none⟩) (hb4.block gp (by omega))).trans hu;
           have k4 := (World.cell?_of_block (a := ⟨(ad.add (i * 3)).block, (ad.add (i * 3)).off + 1, none⟩) (hb4.block (ad.add (i * 3)).block (by omega))).trans hk;
           have hcap4 : (l1.length : Int) ≤ (c4 : Int) := (by omega);
           have HP4 := Lib.hid P4; have HO4 := Lib.hid ho4; have HB4 := Lib.hid hb4; clear ho4 hb4 hg4 hat4 P4)
          refine hK.out _ _ ?_ (fun hHeld => ?_)
          · (try dsimp only)
            go_keep
          clear hK K
          (try simp only [Act.put, List.setIfInBounds_toArray, List.set_cons_zero, List.set_cons_succ])
          refine wpAnyH_take (i := 19) (oi := _) (v := ?_) rfl (by kernel_rfl) (by kernel_rfl) (by kernel_rfl) (fun _ _ _ h => h) (Or.inl ⟨by rfl, ?_⟩) (by assumption) ?_
          rotate_left 1
          · (intro w hSw; (try dsimp only at hSw); go_simp)
            all_goals (with_reducible rfl)
          (try simp only [Act.put, List.setIfInBounds_toArray, List.set_cons_zero, List.set_cons_succ])
          refine wpAnyH_take (i := 20) (oi := _) (v := ?_) rfl (by kernel_rfl) (by kernel_rfl) (by kernel_rfl) (fun _ _ _ h => h) (Or.inl ⟨by rfl, ?_⟩) (by assumption) ?_
          rotate_left 1
          · (intro w hSw; (try dsimp only at hSw); go_simp)
            all_goals (with_reducible rfl)
          (try simp only [Act.put, List.setIfInBounds_toArray, List.set_cons_zero, List.set_cons_succ])
          refine wpAnyH_ready (rs := [21]) (by kernel_rfl) (by simp) ?_
          refine AllReadyH.cons rfl (fun K hK => ?_) ?_
          ·
            go_simp
            refine hK.out _ _ ?_ (fun hHeld => ?_)
            · (try dsimp only)
              go_keep
            clear hK K
            (try simp only [Act.put, List.setIfInBounds_toArray, List.set_cons_zero, List.set_cons_succ])
            refine wpAnyH_done (by kernel_rfl) ?_ _
            refine NoPanic.normal ?_
            exact hK.out _ _ _ _ _ _ _ _ _ _ _ _ _ _ _ _ _ _ _ _ _ _ ⟨A4, c4, Lib.hid (blk_put HP4.out 1 _ rfl), Lib.hid (Kd.R_set HO4.out HP4.out (by decide) 1 _), Lib.hid ((HB4.out.mono (by omega)).trans (Below.setCell (p := ⟨g5, 1, none⟩) (Below.refl _ _) (Nat.le_refl _) _)), Lib.hid (fun k hk hne => (Below.heap_setCell _ ⟨g5, 1, none⟩ _ k hne).trans (HB4.out.block k hk))⟩
          exact AllReadyH.nil
        exact AllReadyH.nil
      exact AllReadyH.nil
    refine AllReadyH.cons rfl (fun K hK => ?_) ?_
    ·
      go_simp
      refine hK.out _ _ ?_ (fun hHeld => ?_)
      · (try dsimp only)
        go_keep
      clear hK K
      (try simp only [Act.put, List.setIfInBounds_toArray, List.set_cons_zero, List.set_cons_succ])
      refine wpAnyH_ready (rs := [8]) (by kernel_rfl) (by simp) ?_
      refine AllReadyH.cons rfl (fun K hK => ?_) ?_
      ·
        (refine Kd.R_append_rows_step k35 (w0 := W) (Rr := k35.K _) W.heap.size (by rfl) (.tmp 52) (.tmp 58) 27 35 (.agg #[(.int .i64 0), (.int .i64 0), (.int .i64 0), (.int .i64 0), (.int .i64 0)]) 40 (by rfl) Try.underlying27 info35 (by rfl) (by decide) (by omega) (.slice none 0 0) [] l1 A l1.length c0 (fun _ => True) (fun _ => False) (by rfl) (by rfl) (Kd.R_nil _ _ _ _ _) (Kd.C_below RC.out (by repeat (first | exact Below.refl _ _ | apply below_drew1 | (refine Below.alloc ?_ (by first | omega | (simp; done) | (simp; omega)) _)))) (fun x cs hx => by rw [k35_open hx]; exact k35_mkM _ _ _ x) (fun _ hk => hk.elim) (fun _ _ => trivial) (by repeat (first | exact Below.refl _ _ | apply below_drew1 | (refine Below.alloc ?_ (by first | omega | (simp; done) | (simp; omega)) _))) (by simp) (by simp; omega) ?_;
         intro v3 w3 ho3 hb3 hg3 hat3;
         obtain ⟨A3, c3, e3⟩ := Kd.R_slice ho3; subst e3;
         (try (have hX3 : w3.heap[W.heap.size]? = some (.cells #[.int .i64 98, .int .i64 0, .int .i64 0, .int .i64 0, .int .i64 0] 35 (0, 0)) := blk_grown (show (W.drew.alloc (.cells #[.int .i64 98, .int .i64 0, .int .i64 0, .int .i64 0, .int .i64 0] 35)).heap[W.heap.size]? = _ by simpa using blk_new W.drew (.cells #[.int .i64 98, .int .i64 0, .int .i64 0, .int .i64 0, .int .i64 0] 35)) hg3 (by simp [Value.ownBlock])));
         have hz3 := hb3.size;
         have P3 := (hb3.block g5 hlt).trans HP.out;
         (have y3 := blk_cell P3 1; have f3 := blk_frozen P3 1; simp only [List.getElem?_toArray, List.getElem?_cons_zero, List.getElem?_cons_succ] at y3);
         have u3 := (World.cell?_of_block (a := ⟨gp, 0, none⟩) (hb3.block gp (by omega))).trans hu;
         have k3 := (World.cell?_of_block (a := ⟨(ad.add (i * 3)).block, (ad.add (i * 3)).off + 1, none⟩) (hb3.block (ad.add (i * 3)).block (by omega))).trans hk;
         have HO3 := Lib.hid ho3; have HB3 := Lib.hid hb3; clear ho3 hb3 hg3 hat3 P3)
        refine hK.out _ _ ?_ (fun hHeld => ?_)
        · (try dsimp only)
          go_keep
        clear hK K
        (try simp only [Act.put, List.setIfInBounds_toArray, List.set_cons_zero, List.set_cons_succ])
        refine wpAnyH_ready (rs := [11]) (by kernel_rfl) (by simp) ?_
        refine AllReadyH.cons rfl (fun K hK => ?_) ?_
        ·
          ((first
           | (refine Kd.R_append_rows_step k35 (w0 := W) (Rr := k35.K _) W.heap.size (by rfl) (.tmp 59) (.tmp 61) 27 35 (.agg #[(.int .i64 0), (.int .i64 0), (.int .i64 0), (.int .i64 0), (.int .i64 0)]) 40 (by rfl) Try.underlying27 info35 (by rfl) (by decide) (by omega) (.slice A3 ([] ++ l1).length c3) ([] ++ l1) [⟨98, 0, 0, 0, 0⟩] (some ⟨w3.heap.size, 0, none⟩) 1 1 (fun _ => True) (fun _ => False) (by rfl) (by rfl) (Kd.R_below HO3.out (Below.alloc (Below.refl _ _) (Nat.le_refl _) _)) (one_row (k35_mk _ ⟨98, 0, 0, 0, 0⟩) (blk_new _ _)) (fun x cs hx => by rw [k35_open hx]; exact k35_mkM _ _ _ x) (fun _ hk => hk.elim) (fun _ _ => trivial) (HB3.out.alloc (by omega) _) (by simp; omega) (by simp; omega) ?_)
           | (refine Kd.R_append_rows_step k35 (w0 := W) (Rr := k35.K _) W.heap.size (by rfl) (.tmp 59) (.tmp 61) 27 35 (.agg #[(.int .i64 0), (.int .i64 0), (.int .i64 0), (.int .i64 0), (.int .i64 0)]) 40 (by rfl) Try.underlying27 info35 (by rfl) (by decide) (by omega) (.slice A3 ([] ++ l1).length c3) ([] ++ l1) [⟨98, 0, 0, 0, 0⟩] (some ⟨W.heap.size, 0, none⟩) 1 1 (fun _ => True) (fun _ => False) (by rfl) (by first | rfl | simp) HO3.out (one_row (k35_mk _ ⟨98, 0, 0, 0, 0⟩) hX3) (fun x cs hx => by rw [k35_open hx]; exact k35_mkM _ _ _ x) (fun _ hk => hk.elim) (fun _ _ => trivial) HB3.out (by omega) (by simp; omega) ?_));
           intro v4 w4 ho4 hb4 hg4 hat4;
           obtain ⟨A4, c4, e4, hc4, _⟩ := Kd.R_reads ho4; subst e4;
           (simp only [List.nil_append, List.length_append, List.length_singleton, List.length_nil, List.length_cons, Nat.zero_add] at hc4 ho4 ⊢);
           have hz4 := hb4.size;
           have P4 := (hb4.block g5 hlt).trans HP.out;
           (have y4 := blk_cell P4 1; have f4 := blk_frozen P4 1; simp only [List.getElem?_toArray, List.getElem?_cons_zero, List.getElem?_cons_succ] at y4);
           have u4 := (World.cell?_of_block (a := ⟨gp, 0, none⟩) (hb4.block gp (by omega))).trans hu;
           have k4 := (World.cell?_of_block (a := ⟨(ad.add (i * 3)).block, (ad.add (i * 3)).off + 1, none⟩) (hb4.block (ad.add (i * 3)).block (by omega))).trans hk;
           have hcap4 : (l1.length : Int) ≤ (c4 : Int) := (by omega);
           have HP4 := Lib.hid P4; have HO4 := Lib.hid ho4; have HB4 := Lib.hid hb4; clear ho4 hb4 hg4 hat4 P4)
          refine hK.out _ _ ?_ (fun hHeld => ?_)
          · (try dsimp only)
            go_keep
          clear hK K
          (try simp only [Act.put, List.setIfInBounds_toArray, List.set_cons_zero, List.set_cons_succ])
          refine wpAnyH_take (i := 19) (oi := _) (v := ?_) rfl (by kernel_rfl) (by kernel_rfl) (by kernel_rfl) (fun _ _ _ h => h) (Or.inl ⟨by rfl, ?_⟩) (by assumption) ?_
          rotate_left 1
          · (intro w hSw; (try dsimp only at hSw); go_simp)
            all_goals (with_reducible rfl)
          (try simp only [Act.put, List.setIfInBounds_toArray, List.set_cons_zero, List.set_cons_succ])
          refine wpAnyH_take (i := 20) (oi := _) (v := ?_) rfl (by kernel_rfl) (by kernel_rfl) (by kernel_rfl) (fun _ _ _ h => h) (Or.inl ⟨by rfl, ?_⟩) (by assumption) ?_
          rotate_left 1
          · (intro w hSw; (try dsimp only at hSw); go_simp)
            all_goals (with_reducible rfl)
          (try simp only [Act.put, List.setIfInBounds_toArray, List.set_cons_zero, List.set_cons_succ])
          refine wpAnyH_ready (rs := [21]) (by kernel_rfl) (by simp) ?_
          refine AllReadyH.cons rfl (fun K hK => ?_) ?_
          ·
            go_simp
            refine hK.out _ _ ?_ (fun hHeld => ?_)
            · (try dsimp only)
              go_keep
            clear hK K
            (try simp only [Act.put, List.setIfInBounds_toArray, List.set_cons_zero, List.set_cons_succ])
            refine wpAnyH_done (by kernel_rfl) ?_ _
            refine NoPanic.normal ?_
            exact hK.out _ _ _ _ _ _ _ _ _ _ _ _ _ _ _ _ _ _ _ _ _ _ ⟨A4, c4, Lib.hid (blk_put HP4.out 1 _ rfl), Lib.hid (Kd.R_set HO4.out HP4.out (by decide) 1 _), Lib.hid ((HB4.out.mono (by omega)).trans (Below.setCell (p := ⟨g5, 1, none⟩) (Below.refl _ _) (Nat.le_refl _) _)), Lib.hid (fun k hk hne => (Below.heap_setCell _ ⟨g5, 1, none⟩ _ k hne).trans (HB4.out.block k hk))⟩
          exact AllReadyH.nil
        exact AllReadyH.nil
      exact AllReadyH.nil
    exact AllReadyH.nil
  refine AllReadyH.cons rfl (fun K hK => ?_) ?_
  ·
    go_simp
    refine hK.out _ _ ?_ (fun hHeld => ?_)
    · (try dsimp only)
      go_keep
    clear hK K
    (try simp only [Act.put, List.setIfInBounds_toArray, List.set_cons_zero, List.set_cons_succ])
    refine wpAnyH_ready (rs := [1]) (by kernel_rfl) (by simp) ?_
    refine AllReadyH.cons rfl (fun K hK => ?_) ?_
    ·
      go_simp
      refine hK.out _ _ ?_ (fun hHeld => ?_)
      · (try dsimp only)
        go_keep
      clear hK K
      (try simp only [Act.put, List.setIfInBounds_toArray, List.set_cons_zero, List.set_cons_succ])
      refine wpAnyH_ready (rs := [8]) (by kernel_rfl) (by simp) ?_
      refine AllReadyH.cons rfl (fun K hK => ?_) ?_
      ·
        (refine Kd.R_append_rows_step k35 (w0 := W) (Rr := k35.K _) W.heap.size (by rfl) (.tmp 52) (.tmp 58) 27 35 (.agg #[(.int .i64 0), (.int .i64 0), (.int .i64 0), (.int .i64 0), (.int .i64 0)]) 40 (by rfl) Try.underlying27 info35 (by rfl) (by decide) (by omega) (.slice none 0 0) [] l1 A l1.length c0 (fun _ => True) (fun _ => False) (by rfl) (by rfl) (Kd.R_nil _ _ _ _ _) (Kd.C_below RC.out (by repeat (first | exact Below.refl _ _ | apply below_drew1 | (refine Below.alloc ?_ (by first | omega | (simp; done) | (simp; omega)) _)))) (fun x cs hx => by rw [k35_open hx]; exact k35_mkM _ _ _ x) (fun _ hk => hk.elim) (fun _ _ => trivial) (by repeat (first | exact Below.refl _ _ | apply below_drew1 | (refine Below.alloc ?_ (by first | omega | (simp; done) | (simp; omega)) _))) (by simp) (by simp; omega) ?_;
         intro v3 w3 ho3 hb3 hg3 hat3;
         obtain ⟨A3, c3, e3⟩ := Kd.R_slice ho3; subst e3;
         (try (have hX3 : w3.heap[W.heap.size]? = some (.cells #[.int .i64 98, .int .i64 0, .int .i64 0, .int .i64 0, .int .i64 0] 35 (0, 0)) := blk_grown (show (W.drew.alloc (.cells #[.int .i64 98, .int .i64 0, .int .i64 0, .int .i64 0, .int .i64 0] 35)).heap[W.heap.size]? = _ by simpa using blk_new W.drew (.cells #[.int .i64 98, .int .i64 0, .int .i64 0, .int .i64 0, .int .i64 0] 35)) hg3 (by simp [Value.ownBlock])));
         have hz3 := hb3.size;
         have P3 := (hb3.block g5 hlt).trans HP.out;
         (have y3 := blk_cell P3 1; have f3 := blk_frozen P3 1; simp only [List.getElem?_toArray, List.getElem?_cons_zero, List.getElem?_cons_succ] at y3);
         have u3 := (World.cell?_of_block (a := ⟨gp, 0, none⟩) (hb3.block gp (by omega))).trans hu;
         have k3 := (World.cell?_of_block (a := ⟨(ad.add (i * 3)).block, (ad.add (i * 3)).off + 1, none⟩) (hb3.block (ad.add (i * 3)).block (by omega))).trans hk;
         have HO3 := Lib.hid ho3; have HB3 := Lib.hid hb3; clear ho3 hb3 hg3 hat3 P3)
        refine hK.out _ _ ?_ (fun hHeld => ?_)
        · (try dsimp only)
          go_keep
        clear hK K
        (try simp only [Act.put, List.setIfInBounds_toArray, List.set_cons_zero, List.set_cons_succ])
        refine wpAnyH_ready (rs := [11]) (by kernel_rfl) (by simp) ?_
        refine AllReadyH.cons rfl (fun K hK => ?_) ?_
        ·
          ((first
           | (refine Kd.R_append_rows_step k35 (w0 := W) (Rr := k35.K _) W.heap.size (by rfl) (.tmp 59) (.tmp 61) 27 35 (.agg #[(.int .i64 0), (.int .i64 0), (.int .i64 0), (.int .i64 0), (.int .i64 0)]) 40 (by rfl) Try.underlying27 info35 (by rfl) (by decide) (by omega) (.slice A3 ([] ++ l1).length c3) ([] ++ l1) [⟨98, 0, 0, 0, 0⟩] (some ⟨w3.heap.size, 0, none⟩) 1 1 (fun _ => True) (fun _ => False) (by rfl) (by rfl) (Kd.R_below HO3.out (Below.alloc (Below.refl _ _) (Nat.le_refl _) _)) (one_row (k35_mk _ ⟨98, 0, 0, 0, 0⟩) (blk_new _ _)) (fun x cs hx => by rw [k35_open hx]; exact k35_mkM _ _ _ x) (fun _ hk => hk.elim) (fun _ _ => trivial) (HB3.out.alloc (by omega) _) (by simp; omega) (by simp; omega) ?_)
           | (refine Kd.R_append_rows_step k35 (w0 := W) (Rr := k35.K _) W.heap.size (by rfl) (.tmp 59) (.tmp 61) 27 35 (.agg #[(.int .i64 0), (.int .i64 0), (.int .i64 0), (.int .i64 0), (.int .i64 0)]) 40 (by rfl) Try.underlying27 info35 (by rfl) (by decide) (by omega) (.slice A3 ([] ++ l1).length c3) ([] ++ l1) [⟨98, 0, 0, 0, 0⟩] (some ⟨W.heap.size, 0, none⟩) 1 1 (fun _ => True) (fun _ => False) (by rfl) (by first | rfl | simp) HO3.out (one_row (k35_mk _ ⟨98, 0, 0, 0, 0⟩) hX3) (fun x cs hx => by rw [k35_open hx]; exact k35_mkM _ _ _ x) (fun _ hk => hk.elim) (fun _ _ => trivial) HB3.out (by omega) (by simp; omega) ?_));
           intro v4 w4 ho4 hb4 hg4 hat4;
           obtain ⟨A4, c4, e4, hc4, _⟩ := Kd.R_reads ho4; subst e4;
           (simp only [List.nil_append, List.length_append, List.length_singleton, List.length_nil, List.length_cons, Nat.zero_add] at hc4 ho4 ⊢);
           have hz4 := hb4.size;
           have P4 := (hb4.block g5 hlt).trans HP.out;
           (have y4 := blk_cell P4 1; have f4 := blk_frozen P4 1; simp only [List.getElem?_toArray, List.getElem?_cons_zero, List.getElem?_cons_succ] at y4);
           have u4 := (World.cell?_of_block (a := ⟨gp, 0, none⟩) (hb4.block gp (by omega))).trans hu;
           have k4 := (World.cell?_of_block (a := ⟨(ad.add (i * 3)).block, (ad.add (i * 3)).off + 1, none⟩) (hb4.block (ad.add (i * 3)).block (by omega))).trans hk;
           have hcap4 : (l1.length : Int) ≤ (c4 : Int) := (by omega);
           have HP4 := Lib.hid P4; have HO4 := Lib.hid ho4; have HB4 := Lib.hid hb4; clear ho4 hb4 hg4 hat4 P4)
          refine hK.out _ _ ?_ (fun hHeld => ?_)
          · (try dsimp only)
            go_keep
          clear hK K
          (try simp only [Act.put, List.setIfInBounds_toArray, List.set_cons_zero, List.set_cons_succ])
          refine wpAnyH_take (i := 19) (oi := _) (v := ?_) rfl (by kernel_rfl) (by kernel_rfl) (by kernel_rfl) (fun _ _ _ h => h) (Or.inl ⟨by rfl, ?_⟩) (by assumption) ?_
          rotate_left 1
          · (intro w hSw; (try dsimp only at hSw); go_simp)
            all_goals (with_reducible rfl)
          (try simp only [Act.put, List.setIfInBounds_toArray, List.set_cons_zero, List.set_cons_succ])
          refine wpAnyH_take (i := 20) (oi := _) (v := ?_) rfl (by kernel_rfl) (by kernel_rfl) (by kernel_rfl) (fun _ _ _ h => h) (Or.inl ⟨by rfl, ?_⟩) (by assumption) ?_
          rotate_left 1
          · (intro w hSw; (try dsimp only at hSw); go_simp)
            all_goals (with_reducible rfl)
          (try simp only [Act.put, List.setIfInBounds_toArray, List.set_cons_zero, List.set_cons_succ])
          refine wpAnyH_ready (rs := [21]) (by kernel_rfl) (by simp) ?_
          refine AllReadyH.cons rfl (fun K hK => ?_) ?_
          ·
            go_simp
            refine hK.out _ _ ?_ (fun hHeld => ?_)
            · (try dsimp only)
              go_keep
            clear hK K
            (try simp only [Act.put, List.setIfInBounds_toArray, List.set_cons_zero, List.set_cons_succ])
            refine wpAnyH_done (by kernel_rfl) ?_ _
            refine NoPanic.normal ?_
            exact hK.out _ _ _ _ _ _ _ _ _ _ _ _ _ _ _ _ _ _ _ _ _ _ ⟨A4, c4, Lib.hid (blk_put HP4.out 1 _ rfl), Lib.hid (Kd.R_set HO4.out HP4.out (by decide) 1 _), Lib.hid ((HB4.out.mono (by omega)).trans (Below.setCell (p := ⟨g5, 1, none⟩) (Below.refl _ _) (Nat.le_refl _) _)), Lib.hid (fun k hk hne => (Below.heap_setCell _ ⟨g5, 1, none⟩ _ k hne).trans (HB4.out.block k hk))⟩
          exact AllReadyH.nil
        exact AllReadyH.nil
      exact AllReadyH.nil
    exact AllReadyH.nil
  exact AllReadyH.nil
end Go.Proofs.Ytedghbjmhcgilaa.A
end
