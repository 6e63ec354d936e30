import Derived.Test.YtohgenhjdgdkgaaGreatDoorShSY
namespace Go.Proofs.YtohgenhjdgdkgaaGreatDoor.Sh
open Go.RowKit
set_option linter.unusedVariables false
set_option linter.unusedSimpArgs false

/-! ### helpers for the walk of slices.Insert -/
theorem WSame.but {b : Nat} {w w' : World} (h : WSame w w') : SameBut b w w' := ⟨h.os, h.tape, h.output, by rw [h.heap], fun k _ => by rw [h.heap]⟩
theorem WSame.of_but {b : Nat} {w w1 w2 : World} {C1 C2 : Array Value} {t : TypeId} {fz : Nat × Nat} (h1 : SameBut b w w1) (h2 : SameBut b w w2) (e1 : w1.heap[b]? = some (.cells C1 t fz)) (e2 : w2.heap[b]? = some (.cells C2 t fz)) (hc : ∀ j : Nat, C2[j]? = C1[j]?) : WSame w1 w2 := by
  refine ⟨h2.os.trans h1.os.symm, h2.tape.trans h1.tape.symm, h2.output.trans h1.output.symm, ?_⟩
  apply Array.ext_getElem?
  intro i
  by_cases e : i = b
  · subst e
    rw [e1, e2, Array.ext_getElem? hc]
  · rw [h1.block i e, h2.block i e]
theorem run_copy_st (P : Program) {w w' : World} {t ty e : TypeId} {i : TypeInfo} (ht : P.underlying t = some (.slice e)) (hi : P.info? e = some i) (b o dLen dCap : Nat) (a : Addr) (sLen sCap n : Nat) (cs : List Value) (hn : Nat.min sLen dLen = n)
    (hsrc : ∀ j v, cs[j]? = some v → w.cell? (a.add j) = some v) (hl : cs.length = n * i.size) (hst : (storeCells ⟨b, o, none⟩ cs 0).run P w = .ok () w') :
    (Builtin.copy_ #[t, t] ty #[.slice (some ⟨b, o, none⟩) dLen dCap, .slice (some a) sLen sCap]).run P w = .ok (goInt n) w' := by
  have hfc := run_firstCells_some (P := P) w i.size n a sLen sCap cs (by omega) hsrc
  have hlen : (Builtin.lenOf (.slice (some a) sLen sCap)).run P w = .ok sLen w := by simp [Builtin.lenOf]
  simp only [Builtin.copy_, List.getElem?_toArray, List.getElem?_cons_zero, List.getElem?_cons_succ, Sem.run_bind, run_underlying ht, Result.andThen_ok, hlen, sizeOf_run hi, hn, hfc, hst, Sem.run_pure]
theorem twoStores (P : Program) {W0 : World} {b : Nat} {t : TypeId} {fz : Nat × Nat} {C : Array Value} (hC : W0.heap[b]? = some (.cells C t fz)) (hfz : ∀ j, j < C.size → ¬ (fz.1 ≤ j ∧ j < fz.2)) (a1 : Nat) (ys1 : List Value) (a2 : Nat) (ys2 : List Value)
    (f1 : a1 + ys1.length ≤ C.size) (f2 : a2 + ys2.length ≤ C.size) (o1 : ∀ v ∈ ys1, oneCell v = true) (o2 : ∀ v ∈ ys2, oneCell v = true) :
    ∃ W1, (storeCells ⟨b, a1, none⟩ ys1 0).run P W0 = .ok () W1 ∧ SameBut b W0 W1 ∧ (∃ C1, W1.heap[b]? = some (.cells C1 t fz) ∧ ∀ j, C1[j]? = if a1 ≤ j ∧ j < a1 + ys1.length then ys1[j - a1]? else C[j]?) ∧ ∀ W1', WSame W1 W1' → ∃ W2 C2, (storeCells ⟨b, a2, none⟩ ys2 0).run P W1' = .ok () W2 ∧ SameBut b W0 W2 ∧ W2.heap[b]? = some (.cells C2 t fz) ∧ C2.size = C.size ∧
      ∀ j, C2[j]? = if a2 ≤ j ∧ j < a2 + ys2.length then ys2[j - a2]? else if a1 ≤ j ∧ j < a1 + ys1.length then ys1[j - a1]? else C[j]? := by
  obtain ⟨W1, C1, h1, h2, h3, h4, h5⟩ := storeCells_run P b a1 t fz ys1 0 C W0 hC hfz (by omega) o1
  refine ⟨W1, h1, h2, ⟨C1, h3, fun j => by have := h5 j; simpa using this⟩, fun W1' hs => ?_⟩
  obtain ⟨W2, C2, g1, g2, g3, g4, g5⟩ := storeCells_run P b a2 t fz ys2 0 C1 W1' (by rw [hs.heap]; exact h3) (by rw [h4]; exact hfz) (by rw [h4]; omega) o2
  refine ⟨W2, C2, g1, (h2.trans hs.but).trans g2, g3, g4.trans h4, fun j => ?_⟩
  rw [g5 j, h5 j]
  simp only [Nat.add_zero]
/-- In place: what stands from k on is shifted, v is put. -/
theorem ins_room {P : Program} {e : TypeId} {i : TypeInfo} {z : Value} {w W2 : World} {b off l c' k m : Nat} {C C2 : Array Value} {tB : TypeId} {fz : Nat × Nat} {xs tl : List Value} (hC : w.heap[b]? = some (.cells C tB fz)) (hfz : ∀ j, j < C.size → ¬ (fz.1 ≤ j ∧ j < fz.2)) (hfit : off + c' * i.size ≤ C.size)
    (hxl : xs.length = m * i.size) (hx1 : ∀ v ∈ xs, oneCell v = true) (htl : tl.length = (l - k) * i.size) (ht1 : ∀ v ∈ tl, oneCell v = true) (hkl : k ≤ l) (hroom : l + m ≤ c') (hb : SameBut b w W2) (hC2 : W2.heap[b]? = some (.cells C2 tB fz))
    (hc : ∀ j : Nat, C2[j]? = if off + k * i.size ≤ j ∧ j < off + k * i.size + xs.length then xs[j - (off + k * i.size)]? else if off + (k + m) * i.size ≤ j ∧ j < off + (k + m) * i.size + tl.length then tl[j - (off + (k + m) * i.size)]? else C[j]?) :
    ∃ w1, AppOut P e i z w (m + (l - k)) (xs ++ tl) (.slice (some ⟨b, off, none⟩) k c') (.slice (some ⟨b, off, none⟩) (l + m) c') w1 ∧ WSame w1 W2 := by
  have e1 : (k + m) * i.size = k * i.size + m * i.size := Nat.add_mul _ _ _
  have e2 : (k + (m + (l - k))) * i.size = k * i.size + (m * i.size + (l - k) * i.size) := by rw [Nat.add_mul, Nat.add_mul]
  have e3 : (k + (m + (l - k))) * i.size ≤ c' * i.size := Nat.mul_le_mul_right _ (by omega)
  obtain ⟨w1, C1, h1, h2, h3, h4, h5⟩ := storeCells_run P b (off + k * i.size) tB fz (xs ++ tl) 0 C w hC hfz (by rw [List.length_append]; omega) (fun v hv => by
    rcases List.mem_append.1 hv with q | q
    · exact hx1 v q
    · exact ht1 v q)
  refine ⟨w1, ?_, WSame.of_but h2 hb h3 hC2 fun j => ?_⟩
  · have := AppOut.room (P := P) (e := e) (i := i) (z := z) (w := w) (n := m + (l - k)) (xs' := xs ++ tl) ⟨b, off, none⟩ k c' w1 (by omega) (by rw [add_at]; exact h1)
    rw [show k + (m + (l - k)) = l + m by omega] at this
    exact this
  · rw [hc j, h5 j, List.length_append]
    simp only [Nat.add_zero]
    by_cases q1 : off + k * i.size ≤ j ∧ j < off + k * i.size + xs.length
    · rw [if_pos q1, if_pos (by omega), List.getElem?_append_left (by omega)]
    · rw [if_neg q1]
      by_cases q2 : off + (k + m) * i.size ≤ j ∧ j < off + (k + m) * i.size + tl.length
      · rw [if_pos q2, if_pos (by omega), List.getElem?_append_right (by omega)]
        congr 1; omega
      · rw [if_neg q2, if_neg (by omega)]
/-- A new row: zero values, over which v and what stood from k on are put. -/
theorem ins_grow {P : Program} {e : TypeId} {i : TypeInfo} {z : Value} {w W2 : World} {b off l c' k m : Nat} {Z C2 : Array Value} {xs tl olds : List Value} (hzs : z.cells.size = i.size)
    (hxl : xs.length = m * i.size) (htl : tl.length = (l - k) * i.size) (hol : olds.length = k * i.size) (hkl : k ≤ l) (hroom : c' < l + m) (hold : (Builtin.firstCells i.size k (.slice (some ⟨b, off, none⟩) k c')).run P w.drew = .ok ⟨olds⟩ w.drew)
    (hb : (l + m) * i.bytes ≤ 140737488355328) (h63 : l + m ≤ 1152921504606846976)
    (hZ : Z = (olds.toArray ++ Builtin.zeroCells z.cells (l + m - k) ++ Builtin.zeroCells z.cells (grownCap w (l + m) c' e - (l + m)))) (hs : SameBut w.heap.size (w.drew.alloc (.cells Z e)) W2) (hC2 : W2.heap[w.heap.size]? = some (.cells C2 e (0, 0)))
    (hc : ∀ j : Nat, C2[j]? = if (k + m) * i.size ≤ j ∧ j < (k + m) * i.size + tl.length then tl[j - (k + m) * i.size]? else if k * i.size ≤ j ∧ j < k * i.size + xs.length then xs[j - k * i.size]? else Z[j]?) :
    ∃ w1, AppOut P e i z w (m + (l - k)) (xs ++ tl) (.slice (some ⟨b, off, none⟩) k c') (.slice (some ⟨w.heap.size, 0, none⟩) (l + m) (grownCap w (l + m) c' e)) w1 ∧ WSame w1 W2 := by
  have e1 : (k + m) * i.size = k * i.size + m * i.size := Nat.add_mul _ _ _
  have e0 : k + (m + (l - k)) = l + m := by omega
  have e2 : (l + m) * i.size = k * i.size + (m * i.size + (l - k) * i.size) := by rw [← e0, Nat.add_mul, Nat.add_mul]
  have e3 : (l + m - k) * i.size = m * i.size + (l - k) * i.size := by rw [show l + m - k = m + (l - k) by omega, Nat.add_mul]
  have hg := AppOut.grow (P := P) (e := e) (i := i) (z := z) (w := w) (n := m + (l - k)) (xs' := xs ++ tl) (some ⟨b, off, none⟩) k c' olds (by omega) hold (by rw [e0]; exact hb) (by omega)
  rw [e0] at hg
  refine ⟨_, hg, hs.os, hs.tape, hs.output, ?_⟩
  apply Array.ext_getElem?
  intro j
  by_cases q : j = w.heap.size
  · subst q
    rw [hC2]
    show _ = (w.heap.push _)[w.heap.size]?
    simp only [Array.getElem?_push_size, Option.some.injEq, Obj.cells.injEq, and_true]
    apply Array.ext_getElem?
    intro j
    rw [hc j, hZ]
    have hz1 : (Builtin.zeroCells z.cells (l + m - k)).size = (l + m - k) * i.size := by rw [size_zeroCells, hzs]
    by_cases q1 : j < k * i.size
    · rw [if_neg (by omega), if_neg (by omega), Array.append_assoc, Array.append_assoc, Array.getElem?_append_left (by simp; omega), Array.getElem?_append_left (by simp; omega)]
    · by_cases q2 : j < (l + m) * i.size
      · by_cases q3 : (k + m) * i.size ≤ j ∧ j < (k + m) * i.size + tl.length
        · rw [if_pos q3, Array.getElem?_append_left (by simp; omega), Array.getElem?_append_right (by simp; omega)]
          simp only [List.getElem?_toArray, List.size_toArray, hol]
          rw [List.getElem?_append_right (by omega)]
          congr 1; omega
        · rw [if_neg q3, if_pos (by omega), Array.getElem?_append_left (by simp; omega), Array.getElem?_append_right (by simp; omega)]
          simp only [List.getElem?_toArray, List.size_toArray, hol]
          rw [List.getElem?_append_left (by omega)]
      · rw [if_neg (by omega), if_neg (by omega), Array.getElem?_append_right (by simp; omega), Array.getElem?_append_right (by simp; omega)]
        simp only [Array.size_append, List.size_toArray, hz1, hol, List.length_append, hxl, htl]
        congr 1; omega
  · rw [hs.block j q]
    show (w.heap.push _)[j]? = (w.heap.push _)[j]?
    rw [Array.getElem?_push, Array.getElem?_push, if_neg q, if_neg q]
end Go.Proofs.YtohgenhjdgdkgaaGreatDoor.Sh
