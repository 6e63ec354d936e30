/- PROVED HERE: what a call of slices.Insert at two types of elements does: in place where there is room, else in a new row: what append(s[:k], v ++ s[k:]) leaves (InsRun of the text ShSY). The elements of v lie in another block than those of s. -/
import Derived.Test.YtohgenhjdgdkgaaGreatDoorShSZ
import Derived.Test.YtohgenhjdgdkgaaGreatDoorChecked
import Derived.Shelf.Spec.SlicesInsertGrow
import Derived.OwnWalk
import Derived.Lib.Hide
import Derived.ProofKit
namespace Go.Proofs.YtohgenhjdgdkgaaGreatDoor
open Go.RowKit Go.Shelf Go.Lib
attribute [local go_sem] Oper.semAt_some
set_option linter.unusedVariables false
set_option linter.unusedSimpArgs false
open Sh (AppT AppOut WSame SameBut twoStores run_copy_st ins_room ins_grow oneCell InsRun add_at sizeOf_run run_room run_grow storeCells_run)
theorem info33 {i : TypeInfo} (h : Tryz.prog.info? 33 = some i) : i.size = 3 ∧ i.bytes = 56 := by
  have : (Tryz.prog.info? 33).map (fun i => (i.size, i.bytes)) = some (3, 56) := by kernel_rfl
  rw [h] at this
  simpa using this
set_option maxHeartbeats 4000000 in
set_option maxRecDepth 100000 in
theorem ins80_shift {i : TypeInfo} {z : Value} (A : AppT Tryz.prog 26 26 33 i z) (w : World) (b off l c' k vb voff m vc : Nat) (C CV : Array Value) (tB tV : TypeId) (fz fzV : Nat × Nat) (xs tl : List Value)
    (hC : w.heap[b]? = some (.cells C tB fz)) (hfz : ∀ j, j < C.size → ¬ (fz.1 ≤ j ∧ j < fz.2)) (hfit : off + c' * 3 ≤ C.size) (hV : w.heap[vb]? = some (.cells CV tV fzV)) (hfv : fzV.1 = fzV.2) (hvb : vb ≠ b)
    (hxs : ∀ j v, xs[j]? = some v → CV[voff + j]? = some v) (hxl : xs.length = m * 3) (hx1 : ∀ v ∈ xs, oneCell v = true)
    (htl : ∀ j v, tl[j]? = some v → C[off + k * 3 + j]? = some v) (htll : tl.length = (l - k) * 3) (ht1 : ∀ v ∈ tl, oneCell v = true)
    (hkl : k < l) (hm : 0 < m) (hlc : l ≤ c') (hroom : l + m ≤ c') (hc63 : c' ≤ 9223372036854775807) (h63 : l + m ≤ 1152921504606846976) :
    Calls Tryz.prog 80 #[.slice (some ⟨b, off, none⟩) l c', .int .i64 k, .slice (some ⟨vb, voff, none⟩) m vc] w fun en w' =>
      ∃ r w1, en = .returned r ∧ AppOut Tryz.prog 33 i z w (m + (l - k)) (xs ++ tl) (.slice (some ⟨b, off, none⟩) k c') r w1 ∧ WSame w1 w' := by
  obtain ⟨hsz, hby⟩ := info33 A.hi
  have hz1 : ¬ ((m : Int) = 0) := by omega
  have hz2 : ¬ ((k : Int) = (l : Int)) := by omega
  have mixed : Tryz.prog.follows .mixedOrders = true := Tryz.checked.mixed
  have hw1 : IntKind.i64.wrap ((k : Int) + (m : Int)) = (k : Int) + (m : Int) := by rw [IntKind.wrap_i64]; omega
  have hb1 : (0 : Int) ≤ (k : Int) + (m : Int) := by omega
  have hin : k ≤ l := by omega
  have htn : ((k : Int) + (m : Int)).toNat = k + m := by omega
  have hb2 : ¬ (c' = k + m) := by omega
  have hb3 : (k : Int) ≤ (l : Int) + (m : Int) := by omega
  have hb4 : ¬ (c' = k) := by omega
  have hov : ∀ lb cb, (callFunc 117 #[.slice (some ⟨vb, voff, none⟩) m vc, .slice (some ⟨b, off + (k + m) * 3, none⟩) lb cb]).run Tryz.prog w = .ok (.value (.bool false)) w := fun lb cb => by
    rw [run_callFunc_extern Tryz.func117 (by kernel_rfl) (by kernel_rfl) (by kernel_rfl) (e := Extern.SlicesOverlaps.overlaps #[26, 26] #[4]) (by kernel_rfl),
      Lib.run_overlaps_apart w 26 4 33 Tryz.underlying26 3 (fun w => by rw [← hsz]; exact sizeOf_run A.hi w) ⟨vb, voff, none⟩ ⟨b, off + (k + m) * 3, none⟩ m vc lb cb hvb tV tB CV.size C.size (by simp [World.shape?, hV]) (by simp [World.shape?, hC]) (by omega) (by simp [World.frozen?, hV]; omega) (by simp [World.frozen?, hV]; omega)]
    rfl
  obtain ⟨W1, s1, s2, ⟨C1, s3, s4⟩, s5⟩ := twoStores Tryz.prog (W0 := w.drew) hC hfz (off + (k + m) * 3) tl (off + k * 3) xs (by omega) (by omega) ht1 hx1
  have hcp1 : ∀ ty dc sc, (Builtin.copy_ #[26, 26] ty #[.slice (some ⟨b, off + (k + m) * 3, none⟩) (l + m - (k + m)) dc, .slice (some ⟨b, off + k * 3, none⟩) (l + m - k) sc]).run Tryz.prog w.drew = .ok (goInt ((l - k : Nat) : Int)) W1 := fun ty dc sc =>
    run_copy_st Tryz.prog Tryz.underlying26 A.hi b _ (l + m - (k + m)) dc ⟨b, off + k * 3, none⟩ (l + m - k) sc (l - k) tl (by simp only [Nat.min_def]; split <;> omega) (fun j v hj => by rw [add_at]; simp only [World.cell?]; rw [show w.drew.heap[b]? = _ from hC]; exact htl j v hj) (by rw [hsz]; exact htll) s1
  obtain ⟨W2, C2, q1, q2, q3, q4, q5⟩ := s5 W1 (WSame.refl _)
  have hcp2 : ∀ ty dc, (Builtin.copy_ #[26, 26] ty #[.slice (some ⟨b, off + k * 3, none⟩) (l + m - k) dc, .slice (some ⟨vb, voff, none⟩) m vc]).run Tryz.prog W1 = .ok (goInt m) W2 := fun ty dc =>
    run_copy_st Tryz.prog Tryz.underlying26 A.hi b _ (l + m - k) dc ⟨vb, voff, none⟩ m vc m xs (by simp only [Nat.min_def]; split <;> omega) (fun j v hj => by rw [add_at]; simp only [World.cell?]; rw [s2.block vb hvb, show w.drew.heap[vb]? = _ from hV]; exact hxs j v hj) (by rw [hsz]; exact hxl) q1
  obtain ⟨w1, g1, g2⟩ := ins_room (P := Tryz.prog) (e := 33) (i := i) (z := z) (l := l) (c' := c') (k := k) (m := m) hC hfz (by rw [hsz]; exact hfit) (by rw [hsz]; exact hxl) hx1 (by rw [hsz]; exact htll) ht1 hin hroom ⟨q2.os, q2.tape, q2.output, q2.size, q2.block⟩ q3 (by rw [hsz]; exact q5)
  clear q5 q4 q3 s4 s3 s5 htl hxs q1 s1
  have G := Lib.hid (And.intro g1 g2)
  clear g1 g2
  go_enter Tryz.func80, Tryz.ntmps80
  go_wp2_with (simp only [hov])
  go_region_law_o (refine step_copy_runI rfl _ _ 26 26 rfl _ _ (by simp [Act.eval, Act.put]) (by simp [Act.eval, Act.put]) (hcp1 _ _ _) ?_)
  go_wp2_with (at_builtin; refine wpList_copy_runI _ rfl _ _ 26 26 rfl _ _ rfl rfl (hcp2 _ _) ?_)
  go_ret
  exact ⟨_, w1, rfl, G.out⟩
set_option maxHeartbeats 4000000 in
set_option maxRecDepth 100000 in
theorem ins80_grow {i : TypeInfo} {z : Value} (A : AppT Tryz.prog 26 26 33 i z) (w : World) (b off l c' k vb voff m vc : Nat) (C CV : Array Value) (tB tV : TypeId) (fz fzV : Nat × Nat) (xs tl : List Value)
    (hC : w.heap[b]? = some (.cells C tB fz)) (hfit : off + c' * 3 ≤ C.size) (hV : w.heap[vb]? = some (.cells CV tV fzV)) (hvb : vb ≠ b)
    (hxs : ∀ j v, xs[j]? = some v → CV[voff + j]? = some v) (hxl : xs.length = m * 3) (hx1 : ∀ v ∈ xs, oneCell v = true)
    (htl : ∀ j v, tl[j]? = some v → C[off + k * 3 + j]? = some v) (htll : tl.length = (l - k) * 3) (ht1 : ∀ v ∈ tl, oneCell v = true)
    (hkl : k < l) (hm : 0 < m) (hlc : l ≤ c') (hroom : c' < l + m) (hc63 : c' ≤ 9223372036854775807) (hbig : (l + m) * 56 ≤ 140737488355328) (h63 : l + m ≤ 1152921504606846976) :
    Calls Tryz.prog 80 #[.slice (some ⟨b, off, none⟩) l c', .int .i64 k, .slice (some ⟨vb, voff, none⟩) m vc] w fun en w' =>
      ∃ r w1, en = .returned r ∧ AppOut Tryz.prog 33 i z w (m + (l - k)) (xs ++ tl) (.slice (some ⟨b, off, none⟩) k c') r w1 ∧ WSame w1 w' := by
  obtain ⟨hsz, hby⟩ := info33 A.hi
  have hz1 : ¬ ((m : Int) = 0) := by omega
  have hz2 : ¬ ((k : Int) = (l : Int)) := by omega
  have hz3 : (c' : Int) < (l : Int) + (m : Int) := by omega
  have mixed : Tryz.prog.follows .mixedOrders = true := Tryz.checked.mixed
  have hkk : (l : Int) + (m : Int) - (k : Int) = ((l + m - k : Nat) : Int) := by omega
  have hik : k + (l + m - k) = l + m := by omega
  have hbw : b < w.heap.size := (Array.getElem?_eq_some_iff.1 hC).1
  have hvw : vb < w.heap.size := (Array.getElem?_eq_some_iff.1 hV).1
  have hkc : k * 3 ≤ c' * 3 := Nat.mul_le_mul_right _ (by omega)
  obtain ⟨olds, hol⟩ : ∃ olds, olds = (C.toList.drop off).take (k * 3) := ⟨_, rfl⟩
  have hoL : olds.length = k * 3 := by rw [hol]; simp; omega
  have hoc : ∀ j v, olds[j]? = some v → w.drew.cell? ((⟨b, off, none⟩ : Addr).add j) = some v := fun j v hj => by
    rw [add_at]; simp only [World.cell?]; rw [show w.drew.heap[b]? = _ from hC]
    rw [hol, List.getElem?_take] at hj
    split at hj
    · rw [List.getElem?_drop, Array.getElem?_toList] at hj; exact hj
    · cases hj
  have hold : (Builtin.firstCells i.size k (.slice (some ⟨b, off, none⟩) k c')).run Tryz.prog w.drew = .ok ⟨olds⟩ w.drew :=
    run_firstCells_some w.drew i.size k ⟨b, off, none⟩ k c' olds (by rw [hsz]; exact hoL) hoc
  have hrz : ∀ ty, (Builtin.append_ #[26, 3] ty #[.slice (some ⟨b, off, none⟩) k c', .int .i64 ((l : Int) + (m : Int) - (k : Int))]).run Tryz.prog w = .ok (.slice (some ⟨w.heap.size, 0, none⟩) (l + m) (grownCap w (l + m) c' 33)) (w.drew.alloc (.cells (olds.toArray ++ Builtin.zeroCells z.cells (l + m - k) ++ Builtin.zeroCells z.cells (grownCap w (l + m) c' 33 - (l + m))) 33)) := fun ty => by
    have h := Lib.run_append_grow_zeros w 26 3 ty 33 i z .i64 .i64 Tryz.underlying26 Tryz.underlying3 A.hi A.hz (some ⟨b, off, none⟩) k c' olds hold (l + m - k) (by omega) (by omega) (by omega) (by omega) (by rw [hby]; omega) (by rw [hby, hik]; exact growslice_fits hroom hbig)
    rw [hik] at h
    rw [hkk]; exact h
  have hGn : l + m ≤ grownCap w (l + m) c' 33 := grownCap_ge w _ _ _
  have hG63 : grownCap w (l + m) c' 33 ≤ 9223372036854775807 := by
    have := grownCap_le_maxLen w (l + m) c' 33 (by unfold maxLen; omega)
    unfold maxLen at this
    omega
  have hfin := fun (W2 : World) (C2 : Array Value) (Z : Array Value) (hZ) (h1) (h2) (h3) => ins_grow (P := Tryz.prog) (e := 33) (i := i) (z := z) (w := w) (W2 := W2) (b := b) (off := off) (l := l) (c' := c') (k := k) (m := m) (Z := Z) (C2 := C2) (xs := xs) (tl := tl) (olds := olds) A.zs (by rw [hsz]; exact hxl) (by rw [hsz]; exact htll) (by rw [hsz]; exact hoL) (Nat.le_of_lt hkl) hroom hold (by rw [hby]; exact hbig) h63 hZ h1 h2 h3
  obtain ⟨G, hG⟩ : ∃ G, G = grownCap w (l + m) c' 33 := ⟨_, rfl⟩
  rw [← hG] at hrz hGn hG63 hfin
  obtain ⟨Z, hZ⟩ : ∃ Z : Array Value, Z = olds.toArray ++ Builtin.zeroCells z.cells (l + m - k) ++ Builtin.zeroCells z.cells (G - (l + m)) := ⟨_, rfl⟩
  rw [← hZ] at hrz
  have hZs : Z.size = G * 3 := by
    rw [hZ]
    simp only [Array.size_append, List.size_toArray, size_zeroCells, hoL, A.zs, hsz]
    omega
  obtain ⟨WA, hWA⟩ : ∃ WA, WA = w.drew.alloc (.cells Z 33) := ⟨_, rfl⟩
  rw [← hWA] at hrz
  have hN : WA.heap[w.heap.size]? = some (.cells Z 33 (0, 0)) := by rw [hWA]; show (w.heap.push _)[w.heap.size]? = _; simp
  have hO : ∀ x, x < w.heap.size → WA.heap[x]? = w.heap[x]? := fun x hx => by rw [hWA]; show (w.heap.push _)[x]? = _; rw [Array.getElem?_push, if_neg (by omega)]
  obtain ⟨W1, s1, s2, _, s5⟩ := twoStores Tryz.prog (W0 := WA) hN (by intro j _ q; omega) (k * 3) xs ((k + m) * 3) tl (by omega) (by omega) hx1 ht1
  have hcpA : ∀ ty dc, (Builtin.copy_ #[26, 26] ty #[.slice (some ⟨w.heap.size, k * 3, none⟩) (l + m - k) dc, .slice (some ⟨vb, voff, none⟩) m vc]).run Tryz.prog WA = .ok (goInt m) W1 := fun ty dc =>
    run_copy_st Tryz.prog Tryz.underlying26 A.hi _ _ (l + m - k) dc ⟨vb, voff, none⟩ m vc m xs (by simp only [Nat.min_def]; split <;> omega) (fun j v hj => by rw [add_at]; simp only [World.cell?]; rw [hO vb hvw, hV]; exact hxs j v hj) (by rw [hsz]; exact hxl) s1
  obtain ⟨W2, C2, q1, q2, q3, q4, q5⟩ := s5 W1.drew ⟨rfl, rfl, rfl, rfl⟩
  have hcpB : ∀ ty dc sc, (Builtin.copy_ #[26, 26] ty #[.slice (some ⟨w.heap.size, (k + m) * 3, none⟩) (l + m - (k + m)) dc, .slice (some ⟨b, off + k * 3, none⟩) (l - k) sc]).run Tryz.prog W1.drew = .ok (goInt ((l - k : Nat) : Int)) W2 := fun ty dc sc =>
    run_copy_st Tryz.prog Tryz.underlying26 A.hi _ _ (l + m - (k + m)) dc ⟨b, off + k * 3, none⟩ (l - k) sc (l - k) tl (by simp only [Nat.min_def]; split <;> omega) (fun j v hj => by rw [add_at]; simp only [World.cell?]; rw [show W1.drew.heap[b]? = W1.heap[b]? from rfl, s2.block b (by omega), hO b hbw, hC]; exact htl j v hj) (by rw [hsz]; exact htll) q1
  obtain ⟨w1, g1, g2⟩ := hfin W2 C2 Z hZ (by rw [← hWA]; exact q2) q3 (by rw [hsz]; exact q5)
  have hGi : ¬ (G = k) := by omega
  have hGim : ¬ (G = k + m) := by omega
  have hci : ¬ (c' = k) := by omega
  have hw1 : IntKind.i64.wrap ((k : Int) + (m : Int)) = (k : Int) + (m : Int) := by rw [IntKind.wrap_i64]; omega
  have hb1 : (0 : Int) ≤ (k : Int) + (m : Int) := by omega
  have hin : k ≤ l := by omega
  have htn : ((k : Int) + (m : Int)).toNat = k + m := by omega
  have hb3 : (k : Int) ≤ (l : Int) := by omega
  have hb5 : (k : Int) + (m : Int) ≤ (l : Int) + (m : Int) := by omega
  clear hfin q5 q4 q3 s5 htl hxs q1 s1 hkk hik hold hoc hol hoL hG hZ hZs hWA hN hO
  have HG := Lib.hid (And.intro g1 g2)
  clear g1 g2
  go_enter Tryz.func80, Tryz.ntmps80
  go_wp2_with (first
    | (at_builtin; refine Lib.wpList_append_run _ rfl _ _ _ _ rfl _ _ rfl rfl _ _ (hrz _) ?_)
    | (at_builtin; refine wpList_copy_runI _ rfl _ _ 26 26 rfl _ _ rfl rfl (hcpA _ _) ?_))
  go_region_law_o (refine step_copy_runI rfl _ _ 26 26 rfl (.slice (some ⟨w.heap.size, (k + m) * 3, none⟩) (l + m - (k + m)) (G - (k + m))) (.slice (some ⟨b, off + k * 3, none⟩) (l - k) (c' - k)) (by simp [Act.eval, Act.put]) (by simp [Act.eval, Act.put]) (hcpB _ _ _) ?_)
  go_wp2
  go_ret
  exact ⟨_, w1, rfl, HG.out⟩
set_option maxHeartbeats 4000000 in
set_option maxRecDepth 100000 in
theorem ins80_end {i : TypeInfo} {z : Value} (A : AppT Tryz.prog 26 26 33 i z) (w : World) (base : Option (Nat × Nat)) (l c' vb voff m vc : Nat) (xs : List Value) (r : Value) (w1 : World)
    (hxs : ∀ (W : World), W.heap = w.heap → ∀ j v, xs[j]? = some v → W.cell? ((⟨vb, voff, none⟩ : Addr).add j) = some v) (hxl : xs.length = m * 3)
    (hm : 0 < m) (hap : AppOut Tryz.prog 33 i z w m xs (.slice (base.map fun p => ⟨p.1, p.2, none⟩) l c') r w1) (hlc : l ≤ c') (hnil : base = none → c' = 0) :
    Calls Tryz.prog 80 #[.slice (base.map fun p => ⟨p.1, p.2, none⟩) l c', .int .i64 l, .slice (some ⟨vb, voff, none⟩) m vc] w fun en w' => en = .returned r ∧ w' = w1 := by
  obtain ⟨hsz, hby⟩ := info33 A.hi
  have hz1 : ¬ ((m : Int) = 0) := by omega
  have hlen : (Builtin.lenOf (.slice (some ⟨vb, voff, none⟩) m vc)).run Tryz.prog w = .ok m w := by simp [Builtin.lenOf]
  have hnew : ∀ W : World, W.heap = w.heap → (Builtin.firstCells i.size m (.slice (some ⟨vb, voff, none⟩) m vc)).run Tryz.prog W = .ok ⟨xs⟩ W := fun W hW =>
    run_firstCells_some W i.size m ⟨vb, voff, none⟩ m vc xs (by rw [hsz]; exact hxl) (hxs W hW)
  have hrun : ∀ ty, (Builtin.append_ #[26, 26] ty #[.slice (base.map fun p => ⟨p.1, p.2, none⟩) l c', .slice (some ⟨vb, voff, none⟩) m vc]).run Tryz.prog w = .ok r w1 := fun ty => by
    generalize hs : (Value.slice (base.map fun p => ⟨p.1, p.2, none⟩) l c') = s at hap ⊢
    cases hap with
    | nil hn => omega
    | room a l c' w' hle hst => exact run_room A w _ ty a l c' m _ ⟨xs⟩ hlen hle (hnew w rfl) hst
    | grow base l c' olds hg hold hb h63 => exact run_grow A w ty base l c' m _ ⟨olds⟩ ⟨xs⟩ hlen hg (hnew _ rfl) hold h63 hb
  clear hap hxs hnew hlen
  go_enter Tryz.func80, Tryz.ntmps80
  cases base with
  | none =>
    have h0 := hnil rfl
    have h1 : l = 0 := by omega
    subst h0 h1
    simp only [Option.map_none] at hrun ⊢
    go_wp2_with (at_builtin; refine Lib.wpList_append_run _ rfl _ _ _ _ rfl _ _ rfl rfl _ _ (hrun _) ?_)
    go_ret
    exact ⟨rfl, rfl⟩
  | some a =>
    obtain ⟨ab, ao⟩ := a
    simp only [Option.map_some] at hrun ⊢
    go_wp2_with (at_builtin; refine Lib.wpList_append_run _ rfl _ _ _ _ rfl _ _ rfl rfl _ _ (hrun _) ?_)
    all_goals (go_ret; exact ⟨rfl, rfl⟩)
theorem ins80 (e : TypeId) (i : TypeInfo) (z : Value) (A : AppT Tryz.prog 26 26 e i z) : InsRun Tryz.prog 80 e i z := by
  obtain rfl : e = 33 := by have := A.ht; rw [Tryz.underlying26] at this; simpa using this.symm
  obtain ⟨hsz, hby⟩ := info33 A.hi
  constructor
  · intro w b off l c' k vb voff m vc C CV tB tV fz fzV xs tl hC hfz hfit hV hfv hvb hxs hxl hx1 htl htll ht1 hkl hm hlc hc63 hbig h63
    rw [hsz] at hfit hxl htl htll
    rw [hby] at hbig
    by_cases hk : k < l
    · by_cases hroom : l + m ≤ c'
      · exact ins80_shift A w b off l c' k vb voff m vc C CV tB tV fz fzV xs tl hC hfz hfit hV hfv hvb hxs hxl hx1 htl htll ht1 hk hm hlc hroom hc63 h63
      · exact ins80_grow A w b off l c' k vb voff m vc C CV tB tV fz fzV xs tl hC hfit hV hvb hxs hxl hx1 htl htll ht1 hk hm hlc (by omega) hc63 hbig h63
    · obtain rfl : k = l := by omega
      obtain rfl : tl = [] := List.length_eq_zero_iff.1 (by rw [htll, Nat.sub_self, Nat.zero_mul])
      rw [List.append_nil, Nat.sub_self, Nat.add_zero]
      have hX : ∀ (W : World), W.heap = w.heap → ∀ j v, xs[j]? = some v → W.cell? ((⟨vb, voff, none⟩ : Addr).add j) = some v := fun W hW j v hj => by
        rw [add_at]; simp only [World.cell?, hW, hV]; exact hxs j v hj
      have hap : ∃ r w1, AppOut Tryz.prog 33 i z w m xs (.slice (some ⟨b, off, none⟩) k c') r w1 := by
        by_cases hroom : k + m ≤ c'
        · have h3 : (k + m) * 3 ≤ c' * 3 := Nat.mul_le_mul_right _ hroom
          obtain ⟨w1, _, h1, _⟩ := storeCells_run Tryz.prog b (off + k * 3) tB fz xs 0 C w hC hfz (by omega) hx1
          exact ⟨_, w1, .room _ k c' w1 hroom (by rw [add_at, hsz]; exact h1)⟩
        · have h3 : k * 3 ≤ c' * 3 := Nat.mul_le_mul_right _ hlc
          refine ⟨_, _, .grow _ k c' ((C.toList.drop off).take (k * 3)) hroom (run_firstCells_some w.drew i.size k ⟨b, off, none⟩ k c' _ (by rw [hsz]; simp; omega) fun j v hj => ?_) (by rw [hby]; exact hbig) h63⟩
          rw [add_at]; simp only [World.cell?]; rw [show w.drew.heap[b]? = _ from hC]
          rw [List.getElem?_take] at hj
          split at hj
          · rw [List.getElem?_drop, Array.getElem?_toList] at hj; exact hj
          · cases hj
      obtain ⟨r, w1, hap⟩ := hap
      refine (ins80_end A w (some (b, off)) k c' vb voff m vc xs r w1 hX hxl hm hap hlc (fun q => by cases q)).mono ?_
      rintro en w' ⟨rfl, rfl⟩
      exact ⟨r, w', rfl, hap, WSame.refl _⟩
  · intro w vb voff m vc CV tV fzV xs hV hxs hxl hx1 hm hbig h63
    rw [hsz] at hxl
    rw [hby] at hbig
    have hX : ∀ (W : World), W.heap = w.heap → ∀ j v, xs[j]? = some v → W.cell? ((⟨vb, voff, none⟩ : Addr).add j) = some v := fun W hW j v hj => by
      rw [add_at]; simp only [World.cell?, hW, hV]; exact hxs j v hj
    have hap : AppOut Tryz.prog 33 i z w m xs (.slice none 0 0) _ _ := .grow none 0 0 [] (by omega) (run_firstCells_none (P := Tryz.prog) w.drew i.size 0 0 0) (by rw [hby]; simpa using hbig) (by simpa using h63)
    refine (ins80_end A w none 0 0 vb voff m vc xs _ _ hX hxl hm hap (Nat.le_refl _) (fun _ => rfl)).mono ?_
    rintro en w' ⟨rfl, rfl⟩
    exact ⟨_, _, rfl, hap, WSame.refl _⟩
theorem info63 {i : TypeInfo} (h : Tryz.prog.info? 63 = some i) : i.size = 3 ∧ i.bytes = 56 := by
  have : (Tryz.prog.info? 63).map (fun i => (i.size, i.bytes)) = some (3, 56) := by kernel_rfl
  rw [h] at this
  simpa using this
set_option maxHeartbeats 4000000 in
set_option maxRecDepth 100000 in
theorem ins116_shift {i : TypeInfo} {z : Value} (A : AppT Tryz.prog 31 31 63 i z) (w : World) (b off l c' k vb voff m vc : Nat) (C CV : Array Value) (tB tV : TypeId) (fz fzV : Nat × Nat) (xs tl : List Value)
    (hC : w.heap[b]? = some (.cells C tB fz)) (hfz : ∀ j, j < C.size → ¬ (fz.1 ≤ j ∧ j < fz.2)) (hfit : off + c' * 3 ≤ C.size) (hV : w.heap[vb]? = some (.cells CV tV fzV)) (hfv : fzV.1 = fzV.2) (hvb : vb ≠ b)
    (hxs : ∀ j v, xs[j]? = some v → CV[voff + j]? = some v) (hxl : xs.length = m * 3) (hx1 : ∀ v ∈ xs, oneCell v = true)
    (htl : ∀ j v, tl[j]? = some v → C[off + k * 3 + j]? = some v) (htll : tl.length = (l - k) * 3) (ht1 : ∀ v ∈ tl, oneCell v = true)
    (hkl : k < l) (hm : 0 < m) (hlc : l ≤ c') (hroom : l + m ≤ c') (hc63 : c' ≤ 9223372036854775807) (h63 : l + m ≤ 1152921504606846976) :
    Calls Tryz.prog 116 #[.slice (some ⟨b, off, none⟩) l c', .int .i64 k, .slice (some ⟨vb, voff, none⟩) m vc] w fun en w' =>
      ∃ r w1, en = .returned r ∧ AppOut Tryz.prog 63 i z w (m + (l - k)) (xs ++ tl) (.slice (some ⟨b, off, none⟩) k c') r w1 ∧ WSame w1 w' := by
  obtain ⟨hsz, hby⟩ := info63 A.hi
  have hz1 : ¬ ((m : Int) = 0) := by omega
  have hz2 : ¬ ((k : Int) = (l : Int)) := by omega
  have mixed : Tryz.prog.follows .mixedOrders = true := Tryz.checked.mixed
  have hw1 : IntKind.i64.wrap ((k : Int) + (m : Int)) = (k : Int) + (m : Int) := by rw [IntKind.wrap_i64]; omega
  have hb1 : (0 : Int) ≤ (k : Int) + (m : Int) := by omega
  have hin : k ≤ l := by omega
  have htn : ((k : Int) + (m : Int)).toNat = k + m := by omega
  have hb2 : ¬ (c' = k + m) := by omega
  have hb3 : (k : Int) ≤ (l : Int) + (m : Int) := by omega
  have hb4 : ¬ (c' = k) := by omega
  have hov : ∀ lb cb, (callFunc 145 #[.slice (some ⟨vb, voff, none⟩) m vc, .slice (some ⟨b, off + (k + m) * 3, none⟩) lb cb]).run Tryz.prog w = .ok (.value (.bool false)) w := fun lb cb => by
    rw [run_callFunc_extern Tryz.func145 (by kernel_rfl) (by kernel_rfl) (by kernel_rfl) (e := Extern.SlicesOverlaps.overlaps #[31, 31] #[4]) (by kernel_rfl),
      Lib.run_overlaps_apart w 31 4 63 Tryz.underlying31 3 (fun w => by rw [← hsz]; exact sizeOf_run A.hi w) ⟨vb, voff, none⟩ ⟨b, off + (k + m) * 3, none⟩ m vc lb cb hvb tV tB CV.size C.size (by simp [World.shape?, hV]) (by simp [World.shape?, hC]) (by omega) (by simp [World.frozen?, hV]; omega) (by simp [World.frozen?, hV]; omega)]
    rfl
  obtain ⟨W1, s1, s2, ⟨C1, s3, s4⟩, s5⟩ := twoStores Tryz.prog (W0 := w.drew) hC hfz (off + (k + m) * 3) tl (off + k * 3) xs (by omega) (by omega) ht1 hx1
  have hcp1 : ∀ ty dc sc, (Builtin.copy_ #[31, 31] ty #[.slice (some ⟨b, off + (k + m) * 3, none⟩) (l + m - (k + m)) dc, .slice (some ⟨b, off + k * 3, none⟩) (l + m - k) sc]).run Tryz.prog w.drew = .ok (goInt ((l - k : Nat) : Int)) W1 := fun ty dc sc =>
    run_copy_st Tryz.prog Tryz.underlying31 A.hi b _ (l + m - (k + m)) dc ⟨b, off + k * 3, none⟩ (l + m - k) sc (l - k) tl (by simp only [Nat.min_def]; split <;> omega) (fun j v hj => by rw [add_at]; simp only [World.cell?]; rw [show w.drew.heap[b]? = _ from hC]; exact htl j v hj) (by rw [hsz]; exact htll) s1
  obtain ⟨W2, C2, q1, q2, q3, q4, q5⟩ := s5 W1 (WSame.refl _)
  have hcp2 : ∀ ty dc, (Builtin.copy_ #[31, 31] ty #[.slice (some ⟨b, off + k * 3, none⟩) (l + m - k) dc, .slice (some ⟨vb, voff, none⟩) m vc]).run Tryz.prog W1 = .ok (goInt m) W2 := fun ty dc =>
    run_copy_st Tryz.prog Tryz.underlying31 A.hi b _ (l + m - k) dc ⟨vb, voff, none⟩ m vc m xs (by simp only [Nat.min_def]; split <;> omega) (fun j v hj => by rw [add_at]; simp only [World.cell?]; rw [s2.block vb hvb, show w.drew.heap[vb]? = _ from hV]; exact hxs j v hj) (by rw [hsz]; exact hxl) q1
  obtain ⟨w1, g1, g2⟩ := ins_room (P := Tryz.prog) (e := 63) (i := i) (z := z) (l := l) (c' := c') (k := k) (m := m) hC hfz (by rw [hsz]; exact hfit) (by rw [hsz]; exact hxl) hx1 (by rw [hsz]; exact htll) ht1 hin hroom ⟨q2.os, q2.tape, q2.output, q2.size, q2.block⟩ q3 (by rw [hsz]; exact q5)
  clear q5 q4 q3 s4 s3 s5 htl hxs q1 s1
  have G := Lib.hid (And.intro g1 g2)
  clear g1 g2
  go_enter Tryz.func116, Tryz.ntmps116
  go_wp2_with (simp only [hov])
  go_region_law_o (refine step_copy_runI rfl _ _ 31 31 rfl _ _ (by simp [Act.eval, Act.put]) (by simp [Act.eval, Act.put]) (hcp1 _ _ _) ?_)
  go_wp2_with (at_builtin; refine wpList_copy_runI _ rfl _ _ 31 31 rfl _ _ rfl rfl (hcp2 _ _) ?_)
  go_ret
  exact ⟨_, w1, rfl, G.out⟩
set_option maxHeartbeats 4000000 in
set_option maxRecDepth 100000 in
theorem ins116_grow {i : TypeInfo} {z : Value} (A : AppT Tryz.prog 31 31 63 i z) (w : World) (b off l c' k vb voff m vc : Nat) (C CV : Array Value) (tB tV : TypeId) (fz fzV : Nat × Nat) (xs tl : List Value)
    (hC : w.heap[b]? = some (.cells C tB fz)) (hfit : off + c' * 3 ≤ C.size) (hV : w.heap[vb]? = some (.cells CV tV fzV)) (hvb : vb ≠ b)
    (hxs : ∀ j v, xs[j]? = some v → CV[voff + j]? = some v) (hxl : xs.length = m * 3) (hx1 : ∀ v ∈ xs, oneCell v = true)
    (htl : ∀ j v, tl[j]? = some v → C[off + k * 3 + j]? = some v) (htll : tl.length = (l - k) * 3) (ht1 : ∀ v ∈ tl, oneCell v = true)
    (hkl : k < l) (hm : 0 < m) (hlc : l ≤ c') (hroom : c' < l + m) (hc63 : c' ≤ 9223372036854775807) (hbig : (l + m) * 56 ≤ 140737488355328) (h63 : l + m ≤ 1152921504606846976) :
    Calls Tryz.prog 116 #[.slice (some ⟨b, off, none⟩) l c', .int .i64 k, .slice (some ⟨vb, voff, none⟩) m vc] w fun en w' =>
      ∃ r w1, en = .returned r ∧ AppOut Tryz.prog 63 i z w (m + (l - k)) (xs ++ tl) (.slice (some ⟨b, off, none⟩) k c') r w1 ∧ WSame w1 w' := by
  obtain ⟨hsz, hby⟩ := info63 A.hi
  have hz1 : ¬ ((m : Int) = 0) := by omega
  have hz2 : ¬ ((k : Int) = (l : Int)) := by omega
  have hz3 : (c' : Int) < (l : Int) + (m : Int) := by omega
  have mixed : Tryz.prog.follows .mixedOrders = true := Tryz.checked.mixed
  have hkk : (l : Int) + (m : Int) - (k : Int) = ((l + m - k : Nat) : Int) := by omega
  have hik : k + (l + m - k) = l + m := by omega
  have hbw : b < w.heap.size := (Array.getElem?_eq_some_iff.1 hC).1
  have hvw : vb < w.heap.size := (Array.getElem?_eq_some_iff.1 hV).1
  have hkc : k * 3 ≤ c' * 3 := Nat.mul_le_mul_right _ (by omega)
  obtain ⟨olds, hol⟩ : ∃ olds, olds = (C.toList.drop off).take (k * 3) := ⟨_, rfl⟩
  have hoL : olds.length = k * 3 := by rw [hol]; simp; omega
  have hoc : ∀ j v, olds[j]? = some v → w.drew.cell? ((⟨b, off, none⟩ : Addr).add j) = some v := fun j v hj => by
    rw [add_at]; simp only [World.cell?]; rw [show w.drew.heap[b]? = _ from hC]
    rw [hol, List.getElem?_take] at hj
    split at hj
    · rw [List.getElem?_drop, Array.getElem?_toList] at hj; exact hj
    · cases hj
  have hold : (Builtin.firstCells i.size k (.slice (some ⟨b, off, none⟩) k c')).run Tryz.prog w.drew = .ok ⟨olds⟩ w.drew :=
    run_firstCells_some w.drew i.size k ⟨b, off, none⟩ k c' olds (by rw [hsz]; exact hoL) hoc
  have hrz : ∀ ty, (Builtin.append_ #[31, 3] ty #[.slice (some ⟨b, off, none⟩) k c', .int .i64 ((l : Int) + (m : Int) - (k : Int))]).run Tryz.prog w = .ok (.slice (some ⟨w.heap.size, 0, none⟩) (l + m) (grownCap w (l + m) c' 63)) (w.drew.alloc (.cells (olds.toArray ++ Builtin.zeroCells z.cells (l + m - k) ++ Builtin.zeroCells z.cells (grownCap w (l + m) c' 63 - (l + m))) 63)) := fun ty => by
    have h := Lib.run_append_grow_zeros w 31 3 ty 63 i z .i64 .i64 Tryz.underlying31 Tryz.underlying3 A.hi A.hz (some ⟨b, off, none⟩) k c' olds hold (l + m - k) (by omega) (by omega) (by omega) (by omega) (by rw [hby]; omega) (by rw [hby, hik]; exact growslice_fits hroom hbig)
    rw [hik] at h
    rw [hkk]; exact h
  have hGn : l + m ≤ grownCap w (l + m) c' 63 := grownCap_ge w _ _ _
  have hG63 : grownCap w (l + m) c' 63 ≤ 9223372036854775807 := by
    have := grownCap_le_maxLen w (l + m) c' 63 (by unfold maxLen; omega)
    unfold maxLen at this
    omega
  have hfin := fun (W2 : World) (C2 : Array Value) (Z : Array Value) (hZ) (h1) (h2) (h3) => ins_grow (P := Tryz.prog) (e := 63) (i := i) (z := z) (w := w) (W2 := W2) (b := b) (off := off) (l := l) (c' := c') (k := k) (m := m) (Z := Z) (C2 := C2) (xs := xs) (tl := tl) (olds := olds) A.zs (by rw [hsz]; exact hxl) (by rw [hsz]; exact htll) (by rw [hsz]; exact hoL) (Nat.le_of_lt hkl) hroom hold (by rw [hby]; exact hbig) h63 hZ h1 h2 h3
  obtain ⟨G, hG⟩ : ∃ G, G = grownCap w (l + m) c' 63 := ⟨_, rfl⟩
  rw [← hG] at hrz hGn hG63 hfin
  obtain ⟨Z, hZ⟩ : ∃ Z : Array Value, Z = olds.toArray ++ Builtin.zeroCells z.cells (l + m - k) ++ Builtin.zeroCells z.cells (G - (l + m)) := ⟨_, rfl⟩
  rw [← hZ] at hrz
  have hZs : Z.size = G * 3 := by
    rw [hZ]
    simp only [Array.size_append, List.size_toArray, size_zeroCells, hoL, A.zs, hsz]
    omega
  obtain ⟨WA, hWA⟩ : ∃ WA, WA = w.drew.alloc (.cells Z 63) := ⟨_, rfl⟩
  rw [← hWA] at hrz
  have hN : WA.heap[w.heap.size]? = some (.cells Z 63 (0, 0)) := by rw [hWA]; show (w.heap.push _)[w.heap.size]? = _; simp
  have hO : ∀ x, x < w.heap.size → WA.heap[x]? = w.heap[x]? := fun x hx => by rw [hWA]; show (w.heap.push _)[x]? = _; rw [Array.getElem?_push, if_neg (by omega)]
  obtain ⟨W1, s1, s2, _, s5⟩ := twoStores Tryz.prog (W0 := WA) hN (by intro j _ q; omega) (k * 3) xs ((k + m) * 3) tl (by omega) (by omega) hx1 ht1
  have hcpA : ∀ ty dc, (Builtin.copy_ #[31, 31] ty #[.slice (some ⟨w.heap.size, k * 3, none⟩) (l + m - k) dc, .slice (some ⟨vb, voff, none⟩) m vc]).run Tryz.prog WA = .ok (goInt m) W1 := fun ty dc =>
    run_copy_st Tryz.prog Tryz.underlying31 A.hi _ _ (l + m - k) dc ⟨vb, voff, none⟩ m vc m xs (by simp only [Nat.min_def]; split <;> omega) (fun j v hj => by rw [add_at]; simp only [World.cell?]; rw [hO vb hvw, hV]; exact hxs j v hj) (by rw [hsz]; exact hxl) s1
  obtain ⟨W2, C2, q1, q2, q3, q4, q5⟩ := s5 W1.drew ⟨rfl, rfl, rfl, rfl⟩
  have hcpB : ∀ ty dc sc, (Builtin.copy_ #[31, 31] ty #[.slice (some ⟨w.heap.size, (k + m) * 3, none⟩) (l + m - (k + m)) dc, .slice (some ⟨b, off + k * 3, none⟩) (l - k) sc]).run Tryz.prog W1.drew = .ok (goInt ((l - k : Nat) : Int)) W2 := fun ty dc sc =>
    run_copy_st Tryz.prog Tryz.underlying31 A.hi _ _ (l + m - (k + m)) dc ⟨b, off + k * 3, none⟩ (l - k) sc (l - k) tl (by simp only [Nat.min_def]; split <;> omega) (fun j v hj => by rw [add_at]; simp only [World.cell?]; rw [show W1.drew.heap[b]? = W1.heap[b]? from rfl, s2.block b (by omega), hO b hbw, hC]; exact htl j v hj) (by rw [hsz]; exact htll) q1
  obtain ⟨w1, g1, g2⟩ := hfin W2 C2 Z hZ (by rw [← hWA]; exact q2) q3 (by rw [hsz]; exact q5)
  have hGi : ¬ (G = k) := by omega
  have hGim : ¬ (G = k + m) := by omega
  have hci : ¬ (c' = k) := by omega
  have hw1 : IntKind.i64.wrap ((k : Int) + (m : Int)) = (k : Int) + (m : Int) := by rw [IntKind.wrap_i64]; omega
  have hb1 : (0 : Int) ≤ (k : Int) + (m : Int) := by omega
  have hin : k ≤ l := by omega
  have htn : ((k : Int) + (m : Int)).toNat = k + m := by omega
  have hb3 : (k : Int) ≤ (l : Int) := by omega
  have hb5 : (k : Int) + (m : Int) ≤ (l : Int) + (m : Int) := by omega
  clear hfin q5 q4 q3 s5 htl hxs q1 s1 hkk hik hold hoc hol hoL hG hZ hZs hWA hN hO
  have HG := Lib.hid (And.intro g1 g2)
  clear g1 g2
  go_enter Tryz.func116, Tryz.ntmps116
  go_wp2_with (first
    | (at_builtin; refine Lib.wpList_append_run _ rfl _ _ _ _ rfl _ _ rfl rfl _ _ (hrz _) ?_)
    | (at_builtin; refine wpList_copy_runI _ rfl _ _ 31 31 rfl _ _ rfl rfl (hcpA _ _) ?_))
  go_region_law_o (refine step_copy_runI rfl _ _ 31 31 rfl (.slice (some ⟨w.heap.size, (k + m) * 3, none⟩) (l + m - (k + m)) (G - (k + m))) (.slice (some ⟨b, off + k * 3, none⟩) (l - k) (c' - k)) (by simp [Act.eval, Act.put]) (by simp [Act.eval, Act.put]) (hcpB _ _ _) ?_)
  go_wp2
  go_ret
  exact ⟨_, w1, rfl, HG.out⟩
set_option maxHeartbeats 4000000 in
set_option maxRecDepth 100000 in
theorem ins116_end {i : TypeInfo} {z : Value} (A : AppT Tryz.prog 31 31 63 i z) (w : World) (base : Option (Nat × Nat)) (l c' vb voff m vc : Nat) (xs : List Value) (r : Value) (w1 : World)
    (hxs : ∀ (W : World), W.heap = w.heap → ∀ j v, xs[j]? = some v → W.cell? ((⟨vb, voff, none⟩ : Addr).add j) = some v) (hxl : xs.length = m * 3)
    (hm : 0 < m) (hap : AppOut Tryz.prog 63 i z w m xs (.slice (base.map fun p => ⟨p.1, p.2, none⟩) l c') r w1) (hlc : l ≤ c') (hnil : base = none → c' = 0) :
    Calls Tryz.prog 116 #[.slice (base.map fun p => ⟨p.1, p.2, none⟩) l c', .int .i64 l, .slice (some ⟨vb, voff, none⟩) m vc] w fun en w' => en = .returned r ∧ w' = w1 := by
  obtain ⟨hsz, hby⟩ := info63 A.hi
  have hz1 : ¬ ((m : Int) = 0) := by omega
  have hlen : (Builtin.lenOf (.slice (some ⟨vb, voff, none⟩) m vc)).run Tryz.prog w = .ok m w := by simp [Builtin.lenOf]
  have hnew : ∀ W : World, W.heap = w.heap → (Builtin.firstCells i.size m (.slice (some ⟨vb, voff, none⟩) m vc)).run Tryz.prog W = .ok ⟨xs⟩ W := fun W hW =>
    run_firstCells_some W i.size m ⟨vb, voff, none⟩ m vc xs (by rw [hsz]; exact hxl) (hxs W hW)
  have hrun : ∀ ty, (Builtin.append_ #[31, 31] ty #[.slice (base.map fun p => ⟨p.1, p.2, none⟩) l c', .slice (some ⟨vb, voff, none⟩) m vc]).run Tryz.prog w = .ok r w1 := fun ty => by
    generalize hs : (Value.slice (base.map fun p => ⟨p.1, p.2, none⟩) l c') = s at hap ⊢
    cases hap with
    | nil hn => omega
    | room a l c' w' hle hst => exact run_room A w _ ty a l c' m _ ⟨xs⟩ hlen hle (hnew w rfl) hst
    | grow base l c' olds hg hold hb h63 => exact run_grow A w ty base l c' m _ ⟨olds⟩ ⟨xs⟩ hlen hg (hnew _ rfl) hold h63 hb
  clear hap hxs hnew hlen
  go_enter Tryz.func116, Tryz.ntmps116
  cases base with
  | none =>
    have h0 := hnil rfl
    have h1 : l = 0 := by omega
    subst h0 h1
    simp only [Option.map_none] at hrun ⊢
    go_wp2_with (at_builtin; refine Lib.wpList_append_run _ rfl _ _ _ _ rfl _ _ rfl rfl _ _ (hrun _) ?_)
    go_ret
    exact ⟨rfl, rfl⟩
  | some a =>
    obtain ⟨ab, ao⟩ := a
    simp only [Option.map_some] at hrun ⊢
    go_wp2_with (at_builtin; refine Lib.wpList_append_run _ rfl _ _ _ _ rfl _ _ rfl rfl _ _ (hrun _) ?_)
    all_goals (go_ret; exact ⟨rfl, rfl⟩)
theorem ins116 (e : TypeId) (i : TypeInfo) (z : Value) (A : AppT Tryz.prog 31 31 e i z) : InsRun Tryz.prog 116 e i z := by
  obtain rfl : e = 63 := by have := A.ht; rw [Tryz.underlying31] at this; simpa using this.symm
  obtain ⟨hsz, hby⟩ := info63 A.hi
  constructor
  · intro w b off l c' k vb voff m vc C CV tB tV fz fzV xs tl hC hfz hfit hV hfv hvb hxs hxl hx1 htl htll ht1 hkl hm hlc hc63 hbig h63
    rw [hsz] at hfit hxl htl htll
    rw [hby] at hbig
    by_cases hk : k < l
    · by_cases hroom : l + m ≤ c'
      · exact ins116_shift A w b off l c' k vb voff m vc C CV tB tV fz fzV xs tl hC hfz hfit hV hfv hvb hxs hxl hx1 htl htll ht1 hk hm hlc hroom hc63 h63
      · exact ins116_grow A w b off l c' k vb voff m vc C CV tB tV fz fzV xs tl hC hfit hV hvb hxs hxl hx1 htl htll ht1 hk hm hlc (by omega) hc63 hbig h63
    · obtain rfl : k = l := by omega
      obtain rfl : tl = [] := List.length_eq_zero_iff.1 (by rw [htll, Nat.sub_self, Nat.zero_mul])
      rw [List.append_nil, Nat.sub_self, Nat.add_zero]
      have hX : ∀ (W : World), W.heap = w.heap → ∀ j v, xs[j]? = some v → W.cell? ((⟨vb, voff, none⟩ : Addr).add j) = some v := fun W hW j v hj => by
        rw [add_at]; simp only [World.cell?, hW, hV]; exact hxs j v hj
      have hap : ∃ r w1, AppOut Tryz.prog 63 i z w m xs (.slice (some ⟨b, off, none⟩) k c') r w1 := by
        by_cases hroom : k + m ≤ c'
        · have h3 : (k + m) * 3 ≤ c' * 3 := Nat.mul_le_mul_right _ hroom
          obtain ⟨w1, _, h1, _⟩ := storeCells_run Tryz.prog b (off + k * 3) tB fz xs 0 C w hC hfz (by omega) hx1
          exact ⟨_, w1, .room _ k c' w1 hroom (by rw [add_at, hsz]; exact h1)⟩
        · have h3 : k * 3 ≤ c' * 3 := Nat.mul_le_mul_right _ hlc
          refine ⟨_, _, .grow _ k c' ((C.toList.drop off).take (k * 3)) hroom (run_firstCells_some w.drew i.size k ⟨b, off, none⟩ k c' _ (by rw [hsz]; simp; omega) fun j v hj => ?_) (by rw [hby]; exact hbig) h63⟩
          rw [add_at]; simp only [World.cell?]; rw [show w.drew.heap[b]? = _ from hC]
          rw [List.getElem?_take] at hj
          split at hj
          · rw [List.getElem?_drop, Array.getElem?_toList] at hj; exact hj
          · cases hj
      obtain ⟨r, w1, hap⟩ := hap
      refine (ins116_end A w (some (b, off)) k c' vb voff m vc xs r w1 hX hxl hm hap hlc (fun q => by cases q)).mono ?_
      rintro en w' ⟨rfl, rfl⟩
      exact ⟨r, w', rfl, hap, WSame.refl _⟩
  · intro w vb voff m vc CV tV fzV xs hV hxs hxl hx1 hm hbig h63
    rw [hsz] at hxl
    rw [hby] at hbig
    have hX : ∀ (W : World), W.heap = w.heap → ∀ j v, xs[j]? = some v → W.cell? ((⟨vb, voff, none⟩ : Addr).add j) = some v := fun W hW j v hj => by
      rw [add_at]; simp only [World.cell?, hW, hV]; exact hxs j v hj
    have hap : AppOut Tryz.prog 63 i z w m xs (.slice none 0 0) _ _ := .grow none 0 0 [] (by omega) (run_firstCells_none (P := Tryz.prog) w.drew i.size 0 0 0) (by rw [hby]; simpa using hbig) (by simpa using h63)
    refine (ins116_end A w none 0 0 vb voff m vc xs _ _ hX hxl hm hap (Nat.le_refl _) (fun _ => rfl)).mono ?_
    rintro en w' ⟨rfl, rfl⟩
    exact ⟨_, _, rfl, hap, WSame.refl _⟩
end Go.Proofs.YtohgenhjdgdkgaaGreatDoor
