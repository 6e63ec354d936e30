import Derived.OwnWalk
import Derived.Lib.Hide
import Derived.Deep.RegionHeld3
import Derived.Deep.DeepCutAuto
import Derived.Test.YtedghbjmhcgilaaKt4
import Derived.Test.YtedghbjmhcgilaaKt14
import Derived.Test.YtedghbjmhcgilaaKt19
section
namespace Go.Proofs.Ytedghbjmhcgilaa.A
open Go.RowKit Go.Shelf Go.Maps Go.Proofs.YtedghbjmhcgilaaW.PrintWords Go.Proofs.YtedghbjmhcgilaaW.PrintLast Go.Proofs.YtedghbjmhcgilaaW.PrintMore
open Go.Proofs.Ytedghbjmhcgilaa.POpt
attribute [local go_sem] Oper.semAt_some
set_option linter.unusedVariables false
set_option linter.unusedSimpArgs false
set_option maxRecDepth 100000 in
set_option maxHeartbeats 2000000 in
theorem kept_out (A : Option Addr) (c : Nat) (bs : List S30) (index : Int) (w : World) (hr : Kd.C k30 w A bs.length bs) (hc : bs.length ≤ c) (ka : Nat) (ha : cartouchelaw14_awake.f ka = some true) (kv : Nat) (rv : Bool) (hv : cartoucheref13_Valid.f kv bs = some rv) (ho : rv = false ∨ (rv = true ∧ (index < 0 ∨ (0 ≤ index ∧ (bs.length : Int) ≤ index)))) :
    Calls Try.prog 4 #[.agg #[.slice A bs.length c], .int .i64 index] w fun e w' => e = .returned (.bool true) ∧ Below w.heap.size w w' := by
  have HR := Lib.hid hr
  have HA := Lib.hid ha
  have HV := Lib.hid hv
  have HB0 : Hid (Below w.heap.size w (w.alloc (.cells #[.slice A bs.length c] 24))) := (Below.refl _ _).alloc (Nat.le_refl _) _
  have HX0 := Lib.hid (blk_new w (.cells #[.slice A bs.length c] 24))
  clear hr ha hv
  rcases ho with rfl | ⟨rfl, hi | ⟨hi0, hi⟩⟩
  all_goals
    go_enter Try.func4, Try.ntmps4
    go_wp2_with fail
    refine (cartouchelaw14_awake.calls ka true _ HA.out).mono ?_
    rintro e w1 ⟨rfl, hb1⟩
    have z1 := hb1.size
    simp only [World.size_alloc] at z1
    have x1 := blk_below HX0.out hb1
    have p1 := blk_cell x1 0
    simp only [List.getElem?_toArray, List.getElem?_cons_zero, List.getElem?_cons_succ] at p1
    have HB1 := Lib.hid (HB0.out.trans (hb1.mono (by simp)))
    have X1 := Lib.hid x1
    clear hb1 x1
    dsimp only
    go_wp2_with fail
    refine (cartoucheref13_Valid.calls kv A c bs _ _ (Kd.C_below HR.out HB1.out) hc HV.out).mono ?_
    rintro e w2 ⟨rfl, hb2⟩
    have z2 := hb2.size
    have x2 := blk_below X1.out hb2
    have p2 := blk_cell x2 0
    simp only [List.getElem?_toArray, List.getElem?_cons_zero, List.getElem?_cons_succ] at p2
    have HB2 := Lib.hid (HB1.out.trans (hb2.mono (by omega)))
    have hz2 : w.heap.size < w2.heap.size := by omega
    clear hb2 x2 p1
    dsimp only
    go_wp2_with fail
    go_ret
    exact ⟨rfl, HB2.out⟩
end Go.Proofs.Ytedghbjmhcgilaa.A
end
section
namespace Go.Proofs.Ytedghbjmhcgilaa.A
open Go.RowKit Go.Shelf Go.Maps Go.Proofs.YtedghbjmhcgilaaW.PrintWords Go.Proofs.YtedghbjmhcgilaaW.PrintLast Go.Proofs.YtedghbjmhcgilaaW.PrintMore
open Go.Proofs.Ytedghbjmhcgilaa.POpt
set_option linter.unusedVariables false
set_option linter.unusedSimpArgs false
theorem one_row {α : Type} {d : Kd α} {W : World} {g t : Nat} {x : α} {cs : List Value} (hk : d.K W x cs) (h : W.heap[g]? = some (.cells cs.toArray t (0, 0))) : Kd.C d W (some ⟨g, 0, none⟩) 1 [x] := by
  refine ⟨rfl, by decide, fun _ => ⟨_, rfl, fun j p hj => ?_⟩⟩
  obtain rfl : j = 0 := by
    cases j with
    | zero => rfl
    | succ j => simp at hj
  simp only [List.getElem?_cons_zero] at hj
  injection hj with hj
  subst hj
  refine ⟨cs, d.K_len hk, hk, fun i u hu => ?_⟩
  have := blk_cell h i
  rw [Addr.add_lit]
  simp only [Nat.zero_mul, Nat.zero_add]
  rw [this]
  simpa using hu
theorem C_prefix {α : Type} {d : Kd α} {W : World} {A : Option Addr} {n m : Nat} {xs ys : List α} (h : Kd.C d W A n (xs ++ ys)) (hm : xs.length = m) : Kd.C d W A m xs := by
  obtain ⟨h1, h2, h3⟩ := h
  rw [List.length_append] at h1
  refine ⟨hm, by omega, fun h0 => ?_⟩
  obtain ⟨ad, e, hh⟩ := h3 (by omega)
  refine ⟨ad, e, fun j p hj => hh j p ?_⟩
  rw [List.getElem?_append_left (List.getElem?_eq_some_iff.1 hj).1]
  exact hj
structure KI (A : Nat → Option Addr) (N C : Nat → Nat) (gL base : Nat) (w0 : World) (q0 : Nat) (W : World) : Prop where
  L : ∃ cs, W.heap[gL]? = some (.cells cs 38 (0, 0)) ∧ ∀ q, q < 15 → ∃ u : Value, cs[q]? = some u ∧ (q0 ≤ q → u = .slice (A q) (N q) (C q))
  r35 : ∀ q, q0 ≤ q → q < 15 → q % 3 ≠ 2 → ∃ xs : List S35, xs.length = N q ∧ Kd.R k35 35 W base (fun k => k ≠ gL) (.slice (A q) (N q) (C q)) xs
  r37 : ∀ q, q0 ≤ q → q < 15 → q % 3 = 2 → ∃ xs : List S37, xs.length = N q ∧ Kd.R k37 37 W base (fun k => k ≠ gL) (.slice (A q) (N q) (C q)) xs
  low : Below base w0 W
  gl : base ≤ gL
def Dis (A : Nat → Option Addr) (N C : Nat → Nat) : Prop := ∀ q q', q < 15 → q' < 15 → q ≠ q' → ∀ k, (Value.slice (A q) (N q) (C q)).ownBlock = some k → (Value.slice (A q') (N q') (C q')).ownBlock ≠ some k
section
variable {A : Nat → Option Addr} {N C : Nat → Nat} {gL base : Nat} {w0 : World} {q0 : Nat} {W : World}
theorem KI.cellL (h : KI A N C gL base w0 q0 W) (q : Nat) (h0 : q0 ≤ q) (h1 : q < 15) : W.cell? ⟨gL, q, none⟩ = some (.slice (A q) (N q) (C q)) ∧ W.frozen? ⟨gL, q, none⟩ = false := by
  obtain ⟨cs, hh, hc⟩ := h.L
  obtain ⟨u, e, hu⟩ := hc q h1
  exact ⟨by rw [blk_cell hh q, e, hu h0], blk_frozen hh q⟩
theorem KI.lt (h : KI A N C gL base w0 q0 W) : gL < W.heap.size := by
  obtain ⟨cs, hh, _⟩ := h.L
  exact blk_lt hh
theorem KI.move (h : KI A N C gL base w0 q0 W) {W' : World} (hL : W'.heap[gL]? = W.heap[gL]?) (hr : ∀ q, q0 ≤ q → q < 15 → ∀ k, (Value.slice (A q) (N q) (C q)).ownBlock = some k → W'.heap[k]? = W.heap[k]?) (hb : Below base w0 W') : KI A N C gL base w0 q0 W' := by
  refine ⟨?_, fun q a b c => ?_, fun q a b c => ?_, hb, h.gl⟩
  · obtain ⟨cs, hh, hc⟩ := h.L
    exact ⟨cs, hL.trans hh, hc⟩
  · obtain ⟨xs, e, r⟩ := h.r35 q a b c
    refine ⟨xs, e, Kd.R_mono (Kd.R_move (Kd.R_flat (ok' := fun k => k ≠ gL ∧ (Value.slice (A q) (N q) (C q)).ownBlock = some k) (fun {_ _ x _} hM => by rw [k35_openM hM]; exact k35_mkM _ _ _ x) r (fun k hk hl => ⟨hl, hk⟩)) (fun k hk => hr q a b k hk.2)) (fun _ hk => hk.1)⟩
  · obtain ⟨xs, e, r⟩ := h.r37 q a b c
    refine ⟨xs, e, Kd.R_mono (Kd.R_move (Kd.R_flat (ok' := fun k => k ≠ gL ∧ (Value.slice (A q) (N q) (C q)).ownBlock = some k) (fun {_ _ x _} hM => by rw [k37_openM hM]; exact k37_mkM _ _ _ x) r (fun k hk hl => ⟨hl, hk⟩)) (fun k hk => hr q a b k hk.2)) (fun _ hk => hk.1)⟩
theorem KI.own_lt (h : KI A N C gL base w0 q0 W) (q : Nat) (h0 : q0 ≤ q) (h1 : q < 15) (k : Nat) (hk : (Value.slice (A q) (N q) (C q)).ownBlock = some k) : k ≠ gL ∧ k < W.heap.size := by
  by_cases hq : q % 3 = 2
  · obtain ⟨xs, e, r⟩ := h.r37 q h0 h1 hq
    have := (Kd.R_bound r).1 k hk
    exact ⟨this.1, this.2.2.1⟩
  · obtain ⟨xs, e, r⟩ := h.r35 q h0 h1 hq
    have := (Kd.R_bound r).1 k hk
    exact ⟨this.1, this.2.2.1⟩
theorem KI.alloc (h : KI A N C gL base w0 q0 W) (o : Obj) : KI A N C gL base w0 q0 (W.alloc o) := by
  have hl := h.lt
  refine h.move (Below.heap_alloc _ _ _ hl) (fun q a b k hk => Below.heap_alloc _ _ _ ?_) (h.low.alloc ?_ o)
  · exact (h.own_lt q a b k hk).2
  · have := h.gl; omega
theorem KI.later (h : KI A N C gL base w0 q0 W) {q1 : Nat} (hq : q0 ≤ q1) : KI A N C gL base w0 q1 W :=
  ⟨by
    obtain ⟨cs, hh, hc⟩ := h.L
    refine ⟨cs, hh, fun q a => ?_⟩
    obtain ⟨u, e, hu⟩ := hc q a
    exact ⟨u, e, fun h => hu (by omega)⟩, fun q a => h.r35 q (by omega), fun q a => h.r37 q (by omega), h.low, h.gl⟩
theorem KI.push (h : KI A N C gL base w0 q0 W) (hD : Dis A N C) (hq : q0 < 15) {w3 : World} (hg : W.grownBy w3 (Value.slice (A q0) (N q0) (C q0)).ownBlock) (hb : Below base W w3) :
    w3.cell? ⟨gL, q0, none⟩ = some (.slice (A q0) (N q0) (C q0)) ∧ w3.frozen? ⟨gL, q0, none⟩ = false ∧ ∀ u : Value, KI A N C gL base w0 (q0 + 1) (w3.setCell ⟨gL, q0, none⟩ u) := by
  have hlt := h.lt
  have hgl := h.gl
  have hne : some gL ≠ (Value.slice (A q0) (N q0) (C q0)).ownBlock := fun e => (h.own_lt q0 (Nat.le_refl _) hq gL e.symm).1 rfl
  have h3 : KI A N C gL base w0 (q0 + 1) w3 := by
    refine (h.later (Nat.le_succ _)).move (hg.block _ hlt hne) (fun q a b k hk => hg.block k ?_ ?_) (h.low.trans hb)
    · exact (h.own_lt q (by omega) b k hk).2
    · exact fun e => hD q q0 b hq (by omega) k hk e.symm
  obtain ⟨cs, hh, hc⟩ := h.L
  have hh3 := (hg.block _ hlt hne).trans hh
  obtain ⟨u0, e0, hu0⟩ := hc q0 hq
  refine ⟨by rw [blk_cell hh3 q0, e0, hu0 (Nat.le_refl _)], blk_frozen hh3 q0, fun u => ?_⟩
  have hs := blk_set hh3 q0 u
  refine ⟨⟨_, hs, fun q a => ?_⟩, fun q a b c => ?_, fun q a b c => ?_, h3.low.setCell hgl u, hgl⟩
  · obtain ⟨u1, e1, hu1⟩ := hc q a
    by_cases hqq : q = q0
    · subst hqq
      refine ⟨u, ?_, fun h => by omega⟩
      have hlc : q < cs.size := (Array.getElem?_eq_some_iff.1 e1).1
      simp [Array.getElem?_setIfInBounds, hlc]
    · refine ⟨u1, ?_, fun h => hu1 (by omega)⟩
      rw [Array.getElem?_setIfInBounds, if_neg (fun h => hqq h.symm)]
      exact e1
  · obtain ⟨xs, e, r⟩ := h3.r35 q a b c
    exact ⟨xs, e, Kd.R_far r (fun k hk => hk) u⟩
  · obtain ⟨xs, e, r⟩ := h3.r37 q a b c
    exact ⟨xs, e, Kd.R_far r (fun k hk => hk) u⟩
theorem set35z {W : World} {base : Nat} {ok : Nat → Prop} {g n cap : Nat} {xs : List S35} (HO : k35.R 35 W base ok (.slice (some ⟨g, 0, none⟩) n cap) xs) (i : Nat) (hi : i < n) (v : Int) :
    k35.R 35 (W.setCell ⟨g, i * 5, none⟩ (.int .i64 v)) base ok (.slice (some ⟨g, 0, none⟩) n cap) (xs.set i { (xs.getD i z35) with f0 := v }) ∧ (∃ u, W.cell? ⟨g, i * 5, none⟩ = some (.int .i64 u)) := by
  obtain ⟨Ax, cx, he, hl, hC⟩ := Kd.R_reads HO
  injection he with e1 e2 e3
  subst e1; subst e3
  have hn : n = xs.length := e2
  obtain ⟨ad, c, e, hlen, hK, hc0⟩ := Kd.C_get hC z35 (i : Int) (by omega) (by omega)
  injection e with e
  subst e
  simp only [Int.toNat_natCast] at hK hc0
  have hcs := k35_open hK
  have h2 := Kd.R_seg (W := W) HO (i : Int) (j := 0) (x' := { (xs.getD i z35) with f0 := v }) (seg := [.int .i64 v]) (c := c) (okp := fun _ => False) (by omega) (by omega) (by rw [hcs]; rfl)
    (fun q u hu => by
      have h9 := hc0 q u hu
      rw [Addr.add_lit, Nat.zero_add] at h9
      exact h9)
    (by show 0 + 1 ≤ 5; omega) (by
      rw [hcs]
      exact k35_mkM _ _ _ { (xs.getD i z35) with f0 := v }) (fun _ h => h.elim)
  have h3 := h2.1
  simp only [Int.toNat_natCast] at h3
  have e : k35.sz = 5 := rfl
  rw [e] at h3
  refine ⟨h3, (xs.getD i z35).f0, ?_⟩
  have h9 := hc0 0 (.int .i64 (xs.getD i z35).f0) (by rw [hcs]; rfl)
  rw [Addr.add_lit, Nat.zero_add] at h9
  exact h9
theorem set37c {W : World} {base : Nat} {ok : Nat → Prop} {g n cap : Nat} {xs : List S37} (HO : k37.R 37 W base ok (.slice (some ⟨g, 0, none⟩) n cap) xs) (i : Nat) (hi : i < n) : ∃ u, W.cell? ⟨g, i * 2 + 1, none⟩ = some (.int .i64 u) := by
  obtain ⟨Ax, cx, he, hl, hC⟩ := Kd.R_reads HO
  injection he with e1 e2 e3
  subst e1; subst e3
  have hn : n = xs.length := e2
  obtain ⟨ad, c, e, hlen, hK, hc0⟩ := Kd.C_get hC z37 (i : Int) (by omega) (by omega)
  injection e with e
  subst e
  simp only [Int.toNat_natCast] at hK hc0
  have hcs := k37_open hK
  refine ⟨(xs.getD i z37).f1, ?_⟩
  have h9 := hc0 1 (.int .i64 (xs.getD i z37).f1) (by rw [hcs]; rfl)
  rw [Addr.add_lit, Nat.zero_add] at h9
  exact h9
theorem KI.mark35 (h : KI A N C gL base w0 q0 W) (hD : Dis A N C) (q : Nat) (hq : q0 ≤ q) (h1 : q < 15) (h2 : q % 3 ≠ 2) (i : Nat) (hi : i < N q) :
    ∃ g, A q = some ⟨g, 0, none⟩ ∧ (∃ u, W.cell? ⟨g, i * 5, none⟩ = some (.int .i64 u)) ∧ W.frozen? ⟨g, i * 5, none⟩ = false ∧ ∀ v, KI A N C gL base w0 q0 (W.setCell ⟨g, i * 5, none⟩ (.int .i64 v)) := by
  obtain ⟨xs, e, r⟩ := h.r35 q hq h1 h2
  obtain ⟨g, cells, hA, hbg, hgs, hok, hblk, hnx, hnc⟩ := R_shape r (by omega) (by decide)
  refine ⟨g, hA, ?_, blk_frozen hblk _, fun v => ?_⟩
  · rw [hA] at r
    exact (set35z r i hi 0).2
  have hown : (Value.slice (A q) (N q) (C q)).ownBlock = some g := by rw [hA]; rfl
  have hmv : ∀ k, k ≠ g → (W.setCell ⟨g, i * 5, none⟩ (.int .i64 v)).heap[k]? = W.heap[k]? := fun k hk => Below.heap_setCell W ⟨g, i * 5, none⟩ _ k hk
  have hb := h.low.setCell (p := ⟨g, i * 5, none⟩) hbg (.int .i64 v)
  refine ⟨?_, fun q' a b c => ?_, fun q' a b c => ?_, hb, h.gl⟩
  · obtain ⟨cs, hh, hc⟩ := h.L
    exact ⟨cs, (hmv gL (fun e => hok e.symm)).trans hh, hc⟩
  · by_cases hqq : q' = q
    · subst hqq
      rw [hA] at r
      refine ⟨xs.set i { (xs.getD i z35) with f0 := v }, by rw [List.length_set]; exact e, ?_⟩
      rw [hA]
      exact (set35z r i hi v).1
    · obtain ⟨ys, e', r'⟩ := h.r35 q' a b c
      refine ⟨ys, e', Kd.R_mono (Kd.R_move (Kd.R_flat (ok' := fun k => k ≠ gL ∧ k ≠ g) (fun {_ _ x _} hM => by rw [k35_openM hM]; exact k35_mkM _ _ _ x) r' (fun k hk hl => ⟨hl, fun e => hD q q' h1 b (fun e => hqq e.symm) g hown (e ▸ hk)⟩)) (fun k hk => hmv k hk.2)) (fun _ hk => hk.1)⟩
  · obtain ⟨ys, e', r'⟩ := h.r37 q' a b c
    refine ⟨ys, e', Kd.R_mono (Kd.R_move (Kd.R_flat (ok' := fun k => k ≠ gL ∧ k ≠ g) (fun {_ _ x _} hM => by rw [k37_openM hM]; exact k37_mkM _ _ _ x) r' (fun k hk hl => ⟨hl, fun e => hD q q' h1 b (fun e => h2 (e ▸ c)) g hown (e ▸ hk)⟩)) (fun k hk => hmv k hk.2)) (fun _ hk => hk.1)⟩
theorem KI.mark37 (h : KI A N C gL base w0 q0 W) (hD : Dis A N C) (q : Nat) (hq : q0 ≤ q) (h1 : q < 15) (h2 : q % 3 = 2) (i : Nat) (hi : i < N q) :
    ∃ g, A q = some ⟨g, 0, none⟩ ∧ (∃ u, W.cell? ⟨g, i * 2 + 1, none⟩ = some (.int .i64 u)) ∧ W.frozen? ⟨g, i * 2 + 1, none⟩ = false ∧ ∀ v, KI A N C gL base w0 q0 (W.setCell ⟨g, i * 2 + 1, none⟩ (.int .i64 v)) := by
  obtain ⟨xs, e, r⟩ := h.r37 q hq h1 h2
  obtain ⟨g, cells, hA, hbg, hgs, hok, hblk, hnx, hnc⟩ := R_shape r (by omega) (by decide)
  refine ⟨g, hA, ?_, blk_frozen hblk _, fun v => ?_⟩
  · rw [hA] at r
    exact set37c r i hi
  have hown : (Value.slice (A q) (N q) (C q)).ownBlock = some g := by rw [hA]; rfl
  have hmv : ∀ k, k ≠ g → (W.setCell ⟨g, i * 2 + 1, none⟩ (.int .i64 v)).heap[k]? = W.heap[k]? := fun k hk => Below.heap_setCell W ⟨g, i * 2 + 1, none⟩ _ k hk
  have hb := h.low.setCell (p := ⟨g, i * 2 + 1, none⟩) hbg (.int .i64 v)
  refine ⟨?_, fun q' a b c => ?_, fun q' a b c => ?_, hb, h.gl⟩
  · obtain ⟨cs, hh, hc⟩ := h.L
    exact ⟨cs, (hmv gL (fun e => hok e.symm)).trans hh, hc⟩
  · obtain ⟨ys, e', r'⟩ := h.r35 q' a b c
    refine ⟨ys, e', Kd.R_mono (Kd.R_move (Kd.R_flat (ok' := fun k => k ≠ gL ∧ k ≠ g) (fun {_ _ x _} hM => by rw [k35_openM hM]; exact k35_mkM _ _ _ x) r' (fun k hk hl => ⟨hl, fun e => hD q q' h1 b (fun e => c (e ▸ h2)) g hown (e ▸ hk)⟩)) (fun k hk => hmv k hk.2)) (fun _ hk => hk.1)⟩
  · by_cases hqq : q' = q
    · subst hqq
      rw [hA] at r
      refine ⟨xs.set i { (xs.getD i z37) with f1 := v }, by rw [List.length_set]; exact e, ?_⟩
      rw [hA]
      exact set37 r i hi v
    · obtain ⟨ys, e', r'⟩ := h.r37 q' a b c
      refine ⟨ys, e', Kd.R_mono (Kd.R_move (Kd.R_flat (ok' := fun k => k ≠ gL ∧ k ≠ g) (fun {_ _ x _} hM => by rw [k37_openM hM]; exact k37_mkM _ _ _ x) r' (fun k hk hl => ⟨hl, fun e => hD q q' h1 b (fun e => hqq e.symm) g hown (e ▸ hk)⟩)) (fun k hk => hmv k hk.2)) (fun _ hk => hk.1)⟩
end
structure T3 (lo hi : Nat) (W : World) (A0 : Option Addr) (n0 c0 : Nat) (A1 : Option Addr) (n1 c1 : Nat) (A2 : Option Addr) (n2 c2 : Nat) : Prop where
  r0 : ∃ xs : List S35, xs.length = n0 ∧ Kd.R k35 35 W lo (fun k => some k ≠ (Value.slice A1 n1 c1).ownBlock ∧ k < hi) (.slice A0 n0 c0) xs
  r1 : ∃ xs : List S35, xs.length = n1 ∧ Kd.R k35 35 W lo (fun k => some k ≠ (Value.slice A0 n0 c0).ownBlock ∧ k < hi) (.slice A1 n1 c1) xs
  r2 : ∃ xs : List S37, xs.length = n2 ∧ Kd.R k37 37 W lo (fun k => k < hi) (.slice A2 n2 c2) xs
theorem T3.of {lo b : Nat} {W : World} {A0 : Option Addr} {c0 : Nat} {A1 : Option Addr} {c1 : Nat} {A2 : Option Addr} {c2 : Nat} {r1 r2 : List S35} {r3 : List S37}
    (h0 : Kd.R k35 35 W b (fun k_ => some k_ ≠ (Value.slice A1 r2.length c1).ownBlock) (.slice A0 r1.length c0) r1) (h1 : Kd.R k35 35 W b (fun k_ => some k_ ≠ (Value.slice A0 r1.length c0).ownBlock) (.slice A1 r2.length c1) r2) (h2 : Kd.R k37 37 W b (fun _ => True) (.slice A2 r3.length c2) r3) (hlo : lo ≤ b) :
    T3 lo W.heap.size W A0 r1.length c0 A1 r2.length c1 A2 r3.length c2 :=
  ⟨⟨r1, rfl, Kd.R_lower (Kd.R_mono (Kd.R_bound h0) (fun k hk => ⟨hk.1, hk.2.2.1⟩)) hlo⟩, ⟨r2, rfl, Kd.R_lower (Kd.R_mono (Kd.R_bound h1) (fun k hk => ⟨hk.1, hk.2.2.1⟩)) hlo⟩, ⟨r3, rfl, Kd.R_lower (Kd.R_mono (Kd.R_bound h2) (fun k hk => hk.2.2.1)) hlo⟩⟩
section
variable {lo hi : Nat} {W W' : World} {A0 : Option Addr} {n0 c0 : Nat} {A1 : Option Addr} {n1 c1 : Nat} {A2 : Option Addr} {n2 c2 : Nat}
theorem T3.move (h : T3 lo hi W A0 n0 c0 A1 n1 c1 A2 n2 c2) (hm : ∀ k, lo ≤ k → k < hi → W'.heap[k]? = W.heap[k]?) : T3 lo hi W' A0 n0 c0 A1 n1 c1 A2 n2 c2 := by
  obtain ⟨⟨x0, e0, r0⟩, ⟨x1, e1, r1⟩, ⟨x2, e2, r2⟩⟩ := h
  exact ⟨⟨x0, e0, Kd.R_mono (Kd.R_move (Kd.R_bound r0) (fun k hk => hm k hk.2.1 hk.1.2)) (fun _ hk => hk.1)⟩, ⟨x1, e1, Kd.R_mono (Kd.R_move (Kd.R_bound r1) (fun k hk => hm k hk.2.1 hk.1.2)) (fun _ hk => hk.1)⟩, ⟨x2, e2, Kd.R_mono (Kd.R_move (Kd.R_bound r2) (fun k hk => hm k hk.2.1 hk.1)) (fun _ hk => hk.1)⟩⟩
theorem T3.below (h : T3 lo hi W A0 n0 c0 A1 n1 c1 A2 n2 c2) (hb : Below hi W W') : T3 lo hi W' A0 n0 c0 A1 n1 c1 A2 n2 c2 := h.move (fun k _ hk => hb.block k hk)
end
theorem KI.start {A : Nat → Option Addr} {N C : Nat → Nat} {gL : Nat} {w0 W : World} (s : Nat → Nat) (hs : ∀ j, j < 5 → s j ≤ s (j + 1)) (h : ∀ j, j < 5 → T3 (s j) (s (j + 1)) W (A (3 * j)) (N (3 * j)) (C (3 * j)) (A (3 * j + 1)) (N (3 * j + 1)) (C (3 * j + 1)) (A (3 * j + 2)) (N (3 * j + 2)) (C (3 * j + 2)))
    (cs : Array Value) (hL : W.heap[gL]? = some (.cells cs 38 (0, 0))) (hc : ∀ q, q < 15 → cs[q]? = some (.slice (A q) (N q) (C q))) (hb : Below (s 0) w0 W) (hg : s 0 ≤ gL) : Dis A N C ∧ KI A N C gL (s 0) w0 0 W := by
  have hmono : ∀ j, j ≤ 5 → s 0 ≤ s j := by
    intro j
    induction j with
    | zero => intro _; exact Nat.le_refl _
    | succ j ih => intro hj; exact Nat.le_trans (ih (by omega)) (hs j (by omega))
  have hmono2 : ∀ d j, j + d ≤ 5 → s j ≤ s (j + d) := by
    intro d
    induction d with
    | zero => intro j _; exact Nat.le_refl _
    | succ d ih => intro j hj; exact Nat.le_trans (ih j (by omega)) (hs (j + d) (by omega))
  have hin : ∀ q, q < 15 → ∀ k, (Value.slice (A q) (N q) (C q)).ownBlock = some k → s (q / 3) ≤ k ∧ k < s (q / 3 + 1) := by
    intro q hq k hk
    obtain ⟨⟨x0, e0, r0⟩, ⟨x1, e1, r1⟩, ⟨x2, e2, r2⟩⟩ := h (q / 3) (by omega)
    have h3 : q = 3 * (q / 3) ∨ q = 3 * (q / 3) + 1 ∨ q = 3 * (q / 3) + 2 := by omega
    rcases h3 with e | e | e
    · rw [← e] at r0
      have := (Kd.R_bound r0).1 k hk
      exact ⟨this.2.1, this.1.2⟩
    · rw [← e] at r1
      have := (Kd.R_bound r1).1 k hk
      exact ⟨this.2.1, this.1.2⟩
    · rw [← e] at r2
      have := (Kd.R_bound r2).1 k hk
      exact ⟨this.2.1, this.1⟩
  have h01 : ∀ j, j < 5 → ∀ k, (Value.slice (A (3 * j)) (N (3 * j)) (C (3 * j))).ownBlock = some k → (Value.slice (A (3 * j + 1)) (N (3 * j + 1)) (C (3 * j + 1))).ownBlock ≠ some k := by
    intro j hj k hk e
    obtain ⟨⟨x0, e0, r0⟩, _⟩ := h j hj
    exact (r0.1 k hk).1 e.symm
  have ty35 : ∀ q, q < 15 → q % 3 ≠ 2 → ∀ k, (Value.slice (A q) (N q) (C q)).ownBlock = some k → ∃ cells, W.heap[k]? = some (.cells cells 35 (0, 0)) := by
    intro q hq h2 k hk
    obtain ⟨⟨x0, e0, r0⟩, ⟨x1, e1, r1⟩, _⟩ := h (q / 3) (by omega)
    have h3 : q = 3 * (q / 3) ∨ q = 3 * (q / 3) + 1 := by omega
    rcases h3 with e | e
    · rw [← e] at r0
      obtain ⟨inner, ho⟩ := Kd.R_own r0
      exact own_typed ho k hk
    · rw [← e] at r1
      obtain ⟨inner, ho⟩ := Kd.R_own r1
      exact own_typed ho k hk
  have ty37 : ∀ q, q < 15 → q % 3 = 2 → ∀ k, (Value.slice (A q) (N q) (C q)).ownBlock = some k → ∃ cells, W.heap[k]? = some (.cells cells 37 (0, 0)) := by
    intro q hq h2 k hk
    obtain ⟨_, _, ⟨x2, e2, r2⟩⟩ := h (q / 3) (by omega)
    have e : q = 3 * (q / 3) + 2 := by omega
    rw [← e] at r2
    obtain ⟨inner, ho⟩ := Kd.R_own r2
    exact own_typed ho k hk
  refine ⟨?_, ⟨⟨cs, hL, fun q hq => ⟨_, hc q hq, fun _ => rfl⟩⟩, fun q _ hq h2 => ?_, fun q _ hq h2 => ?_, hb, hg⟩⟩
  · intro q q' hq hq' hne k hk hk'
    have i1 := hin q hq k hk
    have i2 := hin q' hq' k hk'
    have hj : q / 3 = q' / 3 := by
      rcases Nat.lt_trichotomy (q / 3) (q' / 3) with hlt | he | hlt
      · have := hmono2 (q' / 3 - (q / 3 + 1)) (q / 3 + 1) (by omega)
        rw [show q / 3 + 1 + (q' / 3 - (q / 3 + 1)) = q' / 3 by omega] at this
        omega
      · exact he
      · have := hmono2 (q / 3 - (q' / 3 + 1)) (q' / 3 + 1) (by omega)
        rw [show q' / 3 + 1 + (q / 3 - (q' / 3 + 1)) = q / 3 by omega] at this
        omega
    by_cases h2 : q % 3 = 2
    · have h2' : q' % 3 ≠ 2 := by omega
      obtain ⟨_, a1⟩ := ty37 q hq h2 k hk
      obtain ⟨_, a2⟩ := ty35 q' hq' h2' k hk'
      rw [a1] at a2
      injection a2 with a2
      injection a2 with _ a2
      cases a2
    · by_cases h2' : q' % 3 = 2
      · obtain ⟨_, a1⟩ := ty35 q hq h2 k hk
        obtain ⟨_, a2⟩ := ty37 q' hq' h2' k hk'
        rw [a1] at a2
        injection a2 with a2
        injection a2 with _ a2
        cases a2
      · rcases (show (q = 3 * (q / 3) ∧ q' = 3 * (q / 3) + 1) ∨ (q' = 3 * (q / 3) ∧ q = 3 * (q / 3) + 1) by omega) with ⟨e, e'⟩ | ⟨e, e'⟩
        · rw [e] at hk
          rw [e'] at hk'
          exact h01 (q / 3) (by omega) k hk hk'
        · rw [e'] at hk
          rw [e] at hk'
          exact h01 (q / 3) (by omega) k hk' hk
  · obtain ⟨⟨x0, e0, r0⟩, ⟨x1, e1, r1⟩, _⟩ := h (q / 3) (by omega)
    have h3 : q = 3 * (q / 3) ∨ q = 3 * (q / 3) + 1 := by omega
    rcases h3 with e | e
    · rw [← e] at r0 e0
      exact ⟨x0, e0, Kd.R_lower (Kd.R_mono (Kd.R_types r0 hL (by decide)) (fun _ hk => hk.2)) (hmono _ (by omega))⟩
    · rw [← e] at r1 e1
      exact ⟨x1, e1, Kd.R_lower (Kd.R_mono (Kd.R_types r1 hL (by decide)) (fun _ hk => hk.2)) (hmono _ (by omega))⟩
  · obtain ⟨_, _, ⟨x2, e2, r2⟩⟩ := h (q / 3) (by omega)
    have e : q = 3 * (q / 3) + 2 := by omega
    rw [← e] at r2 e2
    exact ⟨x2, e2, Kd.R_lower (Kd.R_mono (Kd.R_types r2 hL (by decide)) (fun _ hk => hk.2)) (hmono _ (by omega))⟩
theorem T3.set {lo hi gL : Nat} {X W : World} {A0 : Option Addr} {n0 c0 : Nat} {A1 : Option Addr} {n1 c1 : Nat} {A2 : Option Addr} {n2 c2 : Nat} (h : T3 lo hi X A0 n0 c0 A1 n1 c1 A2 n2 c2) (hhi : hi ≤ X.heap.size)
    (hLX : X.heap.size ≤ gL ∨ ∃ cells, X.heap[gL]? = some (.cells cells 38 (0, 0))) (hm : ∀ k, k < X.heap.size → k ≠ gL → W.heap[k]? = X.heap[k]?) : T3 lo hi W A0 n0 c0 A1 n1 c1 A2 n2 c2 := by
  obtain ⟨⟨x0, e0, r0⟩, ⟨x1, e1, r1⟩, ⟨x2, e2, r2⟩⟩ := h
  rcases hLX with hL | ⟨cells, hL⟩
  · exact ⟨⟨x0, e0, Kd.R_move r0 (fun k hk => hm k (by omega) (by omega))⟩, ⟨x1, e1, Kd.R_move r1 (fun k hk => hm k (by omega) (by omega))⟩, ⟨x2, e2, Kd.R_move r2 (fun k hk => hm k (by omega) (by omega))⟩⟩
  · exact ⟨⟨x0, e0, Kd.R_mono (Kd.R_move (Kd.R_types r0 hL (by decide)) (fun k hk => hm k (by omega) hk.2)) (fun _ hk => hk.1)⟩, ⟨x1, e1, Kd.R_mono (Kd.R_move (Kd.R_types r1 hL (by decide)) (fun k hk => hm k (by omega) hk.2)) (fun _ hk => hk.1)⟩, ⟨x2, e2, Kd.R_mono (Kd.R_move (Kd.R_types r2 hL (by decide)) (fun k hk => hm k (by omega) hk.2)) (fun _ hk => hk.1)⟩⟩
theorem KI.start2 {A : Nat → Option Addr} {N C : Nat → Nat} {gL : Nat} {w0 X W : World} (s : Nat → Nat) (hs : ∀ j, j < 5 → s j ≤ s (j + 1)) (h : ∀ j, j < 5 → T3 (s j) (s (j + 1)) X (A (3 * j)) (N (3 * j)) (C (3 * j)) (A (3 * j + 1)) (N (3 * j + 1)) (C (3 * j + 1)) (A (3 * j + 2)) (N (3 * j + 2)) (C (3 * j + 2))) (h5 : s 5 ≤ X.heap.size)
    (hLX : X.heap.size ≤ gL ∨ ∃ cells, X.heap[gL]? = some (.cells cells 38 (0, 0))) (hm : ∀ k, k < X.heap.size → k ≠ gL → W.heap[k]? = X.heap[k]?)
    (cs : Array Value) (hL : W.heap[gL]? = some (.cells cs 38 (0, 0))) (hc : ∀ q, q < 15 → cs[q]? = some (.slice (A q) (N q) (C q))) (hb : Below (s 0) w0 W) (hg : s 0 ≤ gL) : Dis A N C ∧ KI A N C gL (s 0) w0 0 W := by
  refine KI.start s hs (fun j hj => (h j hj).set ?_ hLX hm) cs hL hc hb hg
  have h1 := hs 1 (by omega)
  have h2 := hs 2 (by omega)
  have h3 := hs 3 (by omega)
  have h4 := hs 4 (by omega)
  have h0 := hs 0 (by omega)
  simp only [Nat.reduceAdd] at h0 h1 h2 h3 h4
  rcases (by omega : j = 0 ∨ j = 1 ∨ j = 2 ∨ j = 3 ∨ j = 4) with rfl | rfl | rfl | rfl | rfl <;> simp only [Nat.reduceAdd] <;> omega
theorem all15 {p : Nat → Prop} (h0 : p 0) (h1 : p 1) (h2 : p 2) (h3 : p 3) (h4 : p 4) (h5 : p 5) (h6 : p 6) (h7 : p 7) (h8 : p 8) (h9 : p 9) (h10 : p 10) (h11 : p 11) (h12 : p 12) (h13 : p 13) (h14 : p 14) : ∀ q, q < 15 → p q := by
  intro q hq
  rcases (by omega : q = 0 ∨ q = 1 ∨ q = 2 ∨ q = 3 ∨ q = 4 ∨ q = 5 ∨ q = 6 ∨ q = 7 ∨ q = 8 ∨ q = 9 ∨ q = 10 ∨ q = 11 ∨ q = 12 ∨ q = 13 ∨ q = 14) with rfl | rfl | rfl | rfl | rfl | rfl | rfl | rfl | rfl | rfl | rfl | rfl | rfl | rfl | rfl <;> assumption
theorem all5 {p : Nat → Prop} (h0 : p 0) (h1 : p 1) (h2 : p 2) (h3 : p 3) (h4 : p 4) : ∀ q, q < 5 → p q := by
  intro q hq
  rcases (by omega : q = 0 ∨ q = 1 ∨ q = 2 ∨ q = 3 ∨ q = 4) with rfl | rfl | rfl | rfl | rfl <;> assumption
end Go.Proofs.Ytedghbjmhcgilaa.A
end
section
namespace Go.Proofs.Ytedghbjmhcgilaa.A
open Go.RowKit Go.Shelf Go.Maps Go.Proofs.YtedghbjmhcgilaaW.PrintWords Go.Proofs.YtedghbjmhcgilaaW.PrintLast Go.Proofs.YtedghbjmhcgilaaW.PrintMore
open Go.Proofs.Ytedghbjmhcgilaa.POpt
set_option linter.unusedVariables false
set_option linter.unusedSimpArgs false
section
variable {w0 X : World} {s0 s1 s2 s3 s4 s5 : Nat} {P00 P01 P02 P10 P11 P12 P20 P21 P22 P30 P31 P32 P40 P41 P42 : Option Addr} {n00 n01 n02 n10 n11 n12 n20 n21 n22 n30 n31 n32 n40 n41 n42 : Nat} {p00 p01 p02 p10 p11 p12 p20 p21 p22 p30 p31 p32 p40 p41 p42 : Nat}
theorem KI.finA (h0 : T3 s0 s1 X P00 n00 p00 P01 n01 p01 P02 n02 p02) (h1 : T3 s1 s2 X P10 n10 p10 P11 n11 p11 P12 n12 p12) (h2 : T3 s2 s3 X P20 n20 p20 P21 n21 p21 P22 n22 p22) (h3 : T3 s3 s4 X P30 n30 p30 P31 n31 p31 P32 n32 p32) (h4 : T3 s4 s5 X P40 n40 p40 P41 n41 p41 P42 n42 p42) (e0 : s0 ≤ s1) (e1 : s1 ≤ s2) (e2 : s2 ≤ s3) (e3 : s3 ≤ s4) (e4 : s4 ≤ s5) (m0 : n00 ≤ 2097152 ∧ n01 ≤ 2097152 ∧ n02 ≤ 2097152) (m1 : n10 ≤ 2097152 ∧ n11 ≤ 2097152 ∧ n12 ≤ 2097152) (m2 : n20 ≤ 2097152 ∧ n21 ≤ 2097152 ∧ n22 ≤ 2097152) (m3 : n30 ≤ 2097152 ∧ n31 ≤ 2097152 ∧ n32 ≤ 2097152) (m4 : n40 ≤ 2097152 ∧ n41 ≤ 2097152 ∧ n42 ≤ 2097152) (h5 : s5 ≤ X.heap.size) (hb : Below s0 w0 X) (hg : s0 ≤ X.heap.size) : ∃ (A : Nat → Option Addr) (N C : Nat → Nat) (g : Nat), (Value.pointer (some ⟨X.heap.size, 0, none⟩) = .pointer (some ⟨g, 0, none⟩)) ∧ Hid (Dis A N C) ∧ Hid (KI A N C g s0 w0 0 (X.alloc (.cells #[.slice P00 n00 p00, .slice P01 n01 p01, .slice P02 n02 p02, .slice P10 n10 p10, .slice P11 n11 p11, .slice P12 n12 p12, .slice P20 n20 p20, .slice P21 n21 p21, .slice P22 n22 p22, .slice P30 n30 p30, .slice P31 n31 p31, .slice P32 n32 p32, .slice P40 n40 p40, .slice P41 n41 p41, .slice P42 n42 p42] 38))) ∧ Hid (∀ q, q < 15 → N q ≤ 2097152) := by
  have h := KI.start2 (A := (fun q => [P00, P01, P02, P10, P11, P12, P20, P21, P22, P30, P31, P32, P40, P41, P42].getD q none)) (N := (fun q => [n00, n01, n02, n10, n11, n12, n20, n21, n22, n30, n31, n32, n40, n41, n42].getD q 0)) (C := (fun q => [p00, p01, p02, p10, p11, p12, p20, p21, p22, p30, p31, p32, p40, p41, p42].getD q 0)) (gL := X.heap.size) (w0 := w0) (X := X) (W := X.alloc (.cells #[.slice P00 n00 p00, .slice P01 n01 p01, .slice P02 n02 p02, .slice P10 n10 p10, .slice P11 n11 p11, .slice P12 n12 p12, .slice P20 n20 p20, .slice P21 n21 p21, .slice P22 n22 p22, .slice P30 n30 p30, .slice P31 n31 p31, .slice P32 n32 p32, .slice P40 n40 p40, .slice P41 n41 p41, .slice P42 n42 p42] 38)) (fun j => [s0, s1, s2, s3, s4, s5].getD j 0) (all5 e0 e1 e2 e3 e4) (all5 h0 h1 h2 h3 h4) h5 (.inl (Nat.le_refl _)) (fun k hk _ => Below.heap_alloc _ _ _ hk) _ (blk_new _ _) (all15 rfl rfl rfl rfl rfl rfl rfl rfl rfl rfl rfl rfl rfl rfl rfl) (hb.alloc hg _) hg
  exact ⟨_, _, _, _, rfl, h.1, h.2, all15 m0.1 m0.2.1 m0.2.2 m1.1 m1.2.1 m1.2.2 m2.1 m2.2.1 m2.2.2 m3.1 m3.2.1 m3.2.2 m4.1 m4.2.1 m4.2.2⟩
theorem KI.finB {gL : Nat} (h0 : T3 s0 s1 X P00 n00 p00 P01 n01 p01 P02 n02 p02) (h1 : T3 s1 s2 X P10 n10 p10 P11 n11 p11 P12 n12 p12) (h2 : T3 s2 s3 X P20 n20 p20 P21 n21 p21 P22 n22 p22) (h3 : T3 s3 s4 X P30 n30 p30 P31 n31 p31 P32 n32 p32) (h4 : T3 s4 s5 X P40 n40 p40 P41 n41 p41 P42 n42 p42) (e0 : s0 ≤ s1) (e1 : s1 ≤ s2) (e2 : s2 ≤ s3) (e3 : s3 ≤ s4) (e4 : s4 ≤ s5) (m0 : n00 ≤ 2097152 ∧ n01 ≤ 2097152 ∧ n02 ≤ 2097152) (m1 : n10 ≤ 2097152 ∧ n11 ≤ 2097152 ∧ n12 ≤ 2097152) (m2 : n20 ≤ 2097152 ∧ n21 ≤ 2097152 ∧ n22 ≤ 2097152) (m3 : n30 ≤ 2097152 ∧ n31 ≤ 2097152 ∧ n32 ≤ 2097152) (m4 : n40 ≤ 2097152 ∧ n41 ≤ 2097152 ∧ n42 ≤ 2097152) (h5 : s5 ≤ X.heap.size) (hb : Below s0 w0 X) (hg : s0 ≤ gL) (hL : X.heap[gL]? = some (.cells #[.slice none 0 0, .slice none 0 0, .slice none 0 0, .slice none 0 0, .slice none 0 0, .slice none 0 0, .slice none 0 0, .slice none 0 0, .slice none 0 0, .slice none 0 0, .slice none 0 0, .slice none 0 0, .slice none 0 0, .slice none 0 0, .slice none 0 0] 38 (0, 0))) : ∃ (A : Nat → Option Addr) (N C : Nat → Nat) (g : Nat), (Value.pointer (some ⟨gL, 0, none⟩) = .pointer (some ⟨g, 0, none⟩)) ∧ Hid (Dis A N C) ∧ Hid (KI A N C g s0 w0 0 (((((((((((((((X.setCell ⟨gL, 0, none⟩ (.slice P00 n00 p00)).setCell ⟨gL, 1, none⟩ (.slice P01 n01 p01)).setCell ⟨gL, 2, none⟩ (.slice P02 n02 p02)).setCell ⟨gL, 3, none⟩ (.slice P10 n10 p10)).setCell ⟨gL, 4, none⟩ (.slice P11 n11 p11)).setCell ⟨gL, 5, none⟩ (.slice P12 n12 p12)).setCell ⟨gL, 6, none⟩ (.slice P20 n20 p20)).setCell ⟨gL, 7, none⟩ (.slice P21 n21 p21)).setCell ⟨gL, 8, none⟩ (.slice P22 n22 p22)).setCell ⟨gL, 9, none⟩ (.slice P30 n30 p30)).setCell ⟨gL, 10, none⟩ (.slice P31 n31 p31)).setCell ⟨gL, 11, none⟩ (.slice P32 n32 p32)).setCell ⟨gL, 12, none⟩ (.slice P40 n40 p40)).setCell ⟨gL, 13, none⟩ (.slice P41 n41 p41)).setCell ⟨gL, 14, none⟩ (.slice P42 n42 p42))) ∧ Hid (∀ q, q < 15 → N q ≤ 2097152) := by
  have hf : ∀ k, k ≠ gL → (((((((((((((((X.setCell ⟨gL, 0, none⟩ (.slice P00 n00 p00)).setCell ⟨gL, 1, none⟩ (.slice P01 n01 p01)).setCell ⟨gL, 2, none⟩ (.slice P02 n02 p02)).setCell ⟨gL, 3, none⟩ (.slice P10 n10 p10)).setCell ⟨gL, 4, none⟩ (.slice P11 n11 p11)).setCell ⟨gL, 5, none⟩ (.slice P12 n12 p12)).setCell ⟨gL, 6, none⟩ (.slice P20 n20 p20)).setCell ⟨gL, 7, none⟩ (.slice P21 n21 p21)).setCell ⟨gL, 8, none⟩ (.slice P22 n22 p22)).setCell ⟨gL, 9, none⟩ (.slice P30 n30 p30)).setCell ⟨gL, 10, none⟩ (.slice P31 n31 p31)).setCell ⟨gL, 11, none⟩ (.slice P32 n32 p32)).setCell ⟨gL, 12, none⟩ (.slice P40 n40 p40)).setCell ⟨gL, 13, none⟩ (.slice P41 n41 p41)).setCell ⟨gL, 14, none⟩ (.slice P42 n42 p42)).heap[k]? = X.heap[k]? := fun k hk => by
    iterate 15 refine (Below.heap_setCell _ _ _ k (by exact hk)).trans ?_
    rfl
  have hw : X.setCells gL 0 [.slice P00 n00 p00, .slice P01 n01 p01, .slice P02 n02 p02, .slice P10 n10 p10, .slice P11 n11 p11, .slice P12 n12 p12, .slice P20 n20 p20, .slice P21 n21 p21, .slice P22 n22 p22, .slice P30 n30 p30, .slice P31 n31 p31, .slice P32 n32 p32, .slice P40 n40 p40, .slice P41 n41 p41, .slice P42 n42 p42] = (((((((((((((((X.setCell ⟨gL, 0, none⟩ (.slice P00 n00 p00)).setCell ⟨gL, 1, none⟩ (.slice P01 n01 p01)).setCell ⟨gL, 2, none⟩ (.slice P02 n02 p02)).setCell ⟨gL, 3, none⟩ (.slice P10 n10 p10)).setCell ⟨gL, 4, none⟩ (.slice P11 n11 p11)).setCell ⟨gL, 5, none⟩ (.slice P12 n12 p12)).setCell ⟨gL, 6, none⟩ (.slice P20 n20 p20)).setCell ⟨gL, 7, none⟩ (.slice P21 n21 p21)).setCell ⟨gL, 8, none⟩ (.slice P22 n22 p22)).setCell ⟨gL, 9, none⟩ (.slice P30 n30 p30)).setCell ⟨gL, 10, none⟩ (.slice P31 n31 p31)).setCell ⟨gL, 11, none⟩ (.slice P32 n32 p32)).setCell ⟨gL, 12, none⟩ (.slice P40 n40 p40)).setCell ⟨gL, 13, none⟩ (.slice P41 n41 p41)).setCell ⟨gL, 14, none⟩ (.slice P42 n42 p42)) := by simp only [World.setCells, Nat.zero_add, Nat.reduceAdd]
  have hbb : Below s0 w0 (((((((((((((((X.setCell ⟨gL, 0, none⟩ (.slice P00 n00 p00)).setCell ⟨gL, 1, none⟩ (.slice P01 n01 p01)).setCell ⟨gL, 2, none⟩ (.slice P02 n02 p02)).setCell ⟨gL, 3, none⟩ (.slice P10 n10 p10)).setCell ⟨gL, 4, none⟩ (.slice P11 n11 p11)).setCell ⟨gL, 5, none⟩ (.slice P12 n12 p12)).setCell ⟨gL, 6, none⟩ (.slice P20 n20 p20)).setCell ⟨gL, 7, none⟩ (.slice P21 n21 p21)).setCell ⟨gL, 8, none⟩ (.slice P22 n22 p22)).setCell ⟨gL, 9, none⟩ (.slice P30 n30 p30)).setCell ⟨gL, 10, none⟩ (.slice P31 n31 p31)).setCell ⟨gL, 11, none⟩ (.slice P32 n32 p32)).setCell ⟨gL, 12, none⟩ (.slice P40 n40 p40)).setCell ⟨gL, 13, none⟩ (.slice P41 n41 p41)).setCell ⟨gL, 14, none⟩ (.slice P42 n42 p42)) := by
    iterate 15 refine Below.setCell ?_ (by exact hg) _
    exact hb
  obtain ⟨cs, hcs, hz, he⟩ := setCells_row (g := gL) (e := 38) [.slice P00 n00 p00, .slice P01 n01 p01, .slice P02 n02 p02, .slice P10 n10 p10, .slice P11 n11 p11, .slice P12 n12 p12, .slice P20 n20 p20, .slice P21 n21 p21, .slice P22 n22 p22, .slice P30 n30 p30, .slice P31 n31 p31, .slice P32 n32 p32, .slice P40 n40 p40, .slice P41 n41 p41, .slice P42 n42 p42] 0 X _ hL (by simp)
  rw [hw] at hcs
  have h := KI.start2 (A := (fun q => [P00, P01, P02, P10, P11, P12, P20, P21, P22, P30, P31, P32, P40, P41, P42].getD q none)) (N := (fun q => [n00, n01, n02, n10, n11, n12, n20, n21, n22, n30, n31, n32, n40, n41, n42].getD q 0)) (C := (fun q => [p00, p01, p02, p10, p11, p12, p20, p21, p22, p30, p31, p32, p40, p41, p42].getD q 0)) (gL := gL) (w0 := w0) (X := X) (W := (((((((((((((((X.setCell ⟨gL, 0, none⟩ (.slice P00 n00 p00)).setCell ⟨gL, 1, none⟩ (.slice P01 n01 p01)).setCell ⟨gL, 2, none⟩ (.slice P02 n02 p02)).setCell ⟨gL, 3, none⟩ (.slice P10 n10 p10)).setCell ⟨gL, 4, none⟩ (.slice P11 n11 p11)).setCell ⟨gL, 5, none⟩ (.slice P12 n12 p12)).setCell ⟨gL, 6, none⟩ (.slice P20 n20 p20)).setCell ⟨gL, 7, none⟩ (.slice P21 n21 p21)).setCell ⟨gL, 8, none⟩ (.slice P22 n22 p22)).setCell ⟨gL, 9, none⟩ (.slice P30 n30 p30)).setCell ⟨gL, 10, none⟩ (.slice P31 n31 p31)).setCell ⟨gL, 11, none⟩ (.slice P32 n32 p32)).setCell ⟨gL, 12, none⟩ (.slice P40 n40 p40)).setCell ⟨gL, 13, none⟩ (.slice P41 n41 p41)).setCell ⟨gL, 14, none⟩ (.slice P42 n42 p42))) (fun j => [s0, s1, s2, s3, s4, s5].getD j 0) (all5 e0 e1 e2 e3 e4) (all5 h0 h1 h2 h3 h4) h5 (.inr ⟨_, hL⟩) (fun k _ hk => hf k hk) cs hcs (fun q hq => by
    rw [← Array.getElem?_toList, he]
    revert q
    exact all15 rfl rfl rfl rfl rfl rfl rfl rfl rfl rfl rfl rfl rfl rfl rfl) hbb hg
  exact ⟨_, _, _, _, rfl, h.1, h.2, all15 m0.1 m0.2.1 m0.2.2 m1.1 m1.2.1 m1.2.2 m2.1 m2.2.1 m2.2.2 m3.1 m3.2.1 m3.2.2 m4.1 m4.2.1 m4.2.2⟩
end
end Go.Proofs.Ytedghbjmhcgilaa.A
end
section
namespace Go.Proofs.Ytedghbjmhcgilaa.A
open Go.RowKit Go.Shelf Go.Maps Go.Proofs.YtedghbjmhcgilaaW.PrintWords Go.Proofs.YtedghbjmhcgilaaW.PrintLast Go.Proofs.YtedghbjmhcgilaaW.PrintMore
open Go.Proofs.Ytedghbjmhcgilaa.POpt
attribute [local go_sem] Oper.semAt_some
set_option linter.unusedVariables false
set_option linter.unusedSimpArgs false
def regAt (n : Nat) : Code → Option Code
  | .region m o b => if m = n then some (.region m o b) else none
  | .seq a b => (regAt n a).or (regAt n b)
  | .cond _ a b => (regAt n a).or (regAt n b)
  | .block _ c => regAt n c
  | .loop c => regAt n c
  | _ => none
noncomputable def reg4 (n : Nat) : Code := ((Try.f4.body.bind (regAt n))).getD .skip
theorem wp_reg4 {c : Code} {Q : Exit → Act → World → Prop} {a : Act} {w : World} (n : Nat) (h : c = reg4 n) (hw : (reg4 n).wp Try.prog Q a w) : c.wp Try.prog Q a w := h ▸ hw
end Go.Proofs.Ytedghbjmhcgilaa.A
end
