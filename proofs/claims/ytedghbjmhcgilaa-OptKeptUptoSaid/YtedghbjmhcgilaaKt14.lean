import Derived.Lib.AppendIntMem
import Derived.Lib.OwnBridge
import Derived.OwnWalk
import Derived.Deep.DeepCutAuto
import Derived.Test.YtedghbjmhcgilaaKt4
import Derived.Test.YtedghbjmhcgilaaKt6
import Derived.Test.YtedghbjmhcgilaaKt7
import Derived.Test.YtedghbjmhcgilaaKt8
import Derived.Test.YtedghbjmhcgilaaKt11
import Derived.Test.YtedghbjmhcgilaaKt12
import Derived.Test.YtedghbjmhcgilaaKt13
section
namespace Go.Proofs.Ytedghbjmhcgilaa.A
open Go.RowKit Go.Shelf Go.Lib Go.Sort Go.Proofs.YtedghbjmhcgilaaW.PrintWords Go.Proofs.YtedghbjmhcgilaaW.PrintLast Go.Proofs.YtedghbjmhcgilaaW.PrintMore
open Go.Proofs.Ytedghbjmhcgilaa.POpt
set_option linter.unusedVariables false
set_option linter.unusedSimpArgs false
def lineCells (L : List S37) : List Value := L.flatMap (fun x => [.int .i64 x.f0, .int .i64 x.f1])
theorem lineCells_len (L : List S37) : (lineCells L).length = L.length * 2 := by
  induction L with
  | nil => rfl
  | cons x L ih => simp only [lineCells, List.flatMap_cons, List.length_append] at *; rw [ih]; simp; omega
theorem lineCells_reps (W : World) (base : Nat) (ok : Nat → Prop) (L : List S37) : Reps (k37.M W base ok) 2 L (lineCells L) := by
  refine ⟨lineCells_len L, ?_⟩
  induction L with
  | nil => intro j p h; simp at h
  | cons x L ih =>
    intro j p h
    cases j with
    | zero =>
      simp only [List.getElem?_cons_zero, Option.some.injEq] at h
      subst h
      exact k37_mkM _ _ _ x
    | succ j =>
      simp only [List.getElem?_cons_succ] at h
      have := ih j p h
      have e : (lineCells (x :: L)).drop ((j + 1) * 2) = (lineCells L).drop (j * 2) := by
        show ([Value.int .i64 x.f0, .int .i64 x.f1] ++ lineCells L).drop ((j + 1) * 2) = _
        rw [show (j + 1) * 2 = 2 + j * 2 by omega, ← List.drop_drop]
        rfl
      rw [e]; exact this
theorem below_grow {B : Nat} {w0 w : World} (h : Below B w0 w) (hB : B ≤ w.heap.size) (os : Array Obj) : Below B w0 (grow w os) :=
  ⟨h.os, h.tape, h.output, by simp [grow]; have := h.size; omega, fun k hk => by
    rw [← h.block k hk]
    simp only [grow]
    rw [Array.getElem?_append_left (by omega)]⟩
theorem sorted_row {W : World} {base : Nat} {ok : Nat → Prop} {g n cap : Nat} {R : List S37} (h : k37.R 37 W base ok (.slice (some ⟨g, 0, none⟩) n cap) R) (L : List S37) (hL : L.length = n) (q : Nat) (os : Array Obj) (F : Array Value) (hF : F.toList = lineCells L) :
    k37.R 37 (grow (putRow id (Sort.ahead W q) g 0 F) os) base ok (.slice (some ⟨g, 0, none⟩) n cap) L ∧ Below base W (grow (putRow id (Sort.ahead W q) g 0 F) os) ∧ ∀ k, k < W.heap.size → k ≠ g → (grow (putRow id (Sort.ahead W q) g 0 F) os).heap[k]? = W.heap[k]? := by
  obtain ⟨g', cells, hA, hbg, hgl, hok, hh, hn, hnc⟩ := (by exact (show ∃ g' cells, (some ⟨g, 0, none⟩ : Option Addr) = some ⟨g', 0, none⟩ ∧ base ≤ g' ∧ g' < W.heap.size ∧ ok g' ∧ W.heap[g']? = some (.cells cells 37 (0, 0)) ∧ n = R.length ∧ n ≤ cap from by
    obtain ⟨hok, inner, ho, hr⟩ := h
    rcases ho.2 with ⟨e0, _⟩ | ⟨g', cap', cur, e0, hb, hg, hn, hm, hs, ht⟩
    · cases e0
    · injection e0 with e1 e2 e3
      injection e1 with e1
      injection e1 with e1
      subst e1; subst e3
      exact ⟨g, cur, rfl, hb, (Array.getElem?_eq_some_iff.1 hg).1, hok g rfl, hg, e2, by omega⟩))
  injection hA with hA
  injection hA with hA
  subst hA
  have hsz : F.size = n * 2 := by rw [← Array.length_toList, hF, lineCells_len, hL]
  have hps : (putRow id (Sort.ahead W q) g 0 F).heap.size = W.heap.size := by simp [putRow, mapBlock, Sort.ahead]
  refine ⟨?_, below_grow (below_putRow (Below.refl base W) hbg) (by rw [hps]; omega) os, fun k h1 h2 => ?_⟩
  · obtain ⟨_, inner, ho, hr⟩ := h
    refine ⟨fun k hk => by have : g = k := by simpa [Value.ownBlock] using hk
                           subst this; exact hok, lineCells L, ?_, ?_⟩
    · have hown : (putRow id (Sort.ahead W q) g 0 F).ownsRow base 37 2 (.slice (some ⟨g, 0, none⟩) n cap) n (lineCells L) := by
        rcases ho.2 with ⟨e0, _⟩ | ⟨g', cap', cur, e0, hb, hg, hnn, hm, hs, ht⟩
        · cases e0
        · injection e0 with e1 e2 e3
          injection e1 with e1
          injection e1 with e1
          subst e1; subst e3
          refine ⟨by rw [lineCells_len, hL], .inr ⟨g, cap, putCells id 0 F cur, rfl, hb, ?_, hnc, hm, (by have hs' : cur.size = cap * 2 := hs; simpa [putCells] using hs'), ?_⟩⟩
          · simp [putRow, mapBlock, Sort.ahead, Array.getElem?_modify, hg, onCells]
          · have hs' : cur.size = cap * 2 := hs
            apply List.ext_getElem?
            intro j
            rw [List.getElem?_take, ← hF, Array.getElem?_toList, Array.getElem?_toList]
            by_cases hj : j < n * 2
            · have hjc : j < cur.size := by omega
              simp only [if_pos hj, putCells, Array.getElem?_mapIdx, Array.getElem?_eq_getElem hjc, Option.map_some]
              rw [if_pos (by simp; omega), Array.getElem?_eq_getElem (by omega)]
              simp [getElem!_pos, show j < F.size by omega]
            · rw [if_neg hj, Array.getElem?_eq_none (by omega)]
      rw [hL]
      exact Lib.ownsRow_grow hown 0 os
    · exact lineCells_reps _ _ _ L
  · simp only [grow]
    rw [Array.getElem?_append_left (by rw [hps]; exact h1)]
    simp [putRow, mapBlock, Sort.ahead, Array.getElem?_modify, Ne.symm h2]
end Go.Proofs.Ytedghbjmhcgilaa.A
end
section
namespace Go.Proofs.Ytedghbjmhcgilaa.A
open Go.RowKit Go.Shelf Go.Lib Go.Sort Go.Proofs.YtedghbjmhcgilaaW.PrintWords Go.Proofs.YtedghbjmhcgilaaW.PrintLast Go.Proofs.YtedghbjmhcgilaaW.PrintMore
open Go.Proofs.Ytedghbjmhcgilaa.POpt
set_option linter.unusedVariables false
set_option linter.unusedSimpArgs false
def sortRows (R : List S37) : List S37 := R.mergeSort (fun x y => !decide (y.f0 < x.f0))
theorem sortRows_len (R : List S37) : (sortRows R).length = R.length := List.length_mergeSort _
def tagged (R : List S37) (h : ∀ x ∈ R, 0 ≤ x.f0 ∧ x.f0 ≤ 4611686018427387904) : List (TagLine R) := R.attach.map fun x => ⟨x.1, x.2, h x.1 x.2⟩
theorem tagged_map (R : List S37) (h : ∀ x ∈ R, 0 ≤ x.f0 ∧ x.f0 ≤ 4611686018427387904) : (tagged R h).map Subtype.val = R := by
  unfold tagged
  rw [List.map_map]
  show R.attach.map (fun x => x.1) = R
  simp
theorem isAgg37 (w : World) : (isAgg 37).run Try.prog w = .ok true w := by kernel_rfl
theorem sizeOf37 (w : World) : (Go.sizeOf 37).run Try.prog w = .ok 2 w := by kernel_rfl
theorem lineCells_at (L : List S37) : ∀ j, (h : j < L.length) → (lineCells L)[j * 2]? = some (.int .i64 L[j].f0) ∧ (lineCells L)[j * 2 + 1]? = some (.int .i64 L[j].f1) := by
  induction L with
  | nil => intro j h; simp at h
  | cons x L ih =>
    intro j h
    have e : lineCells (x :: L) = .int .i64 x.f0 :: .int .i64 x.f1 :: lineCells L := rfl
    cases j with
    | zero => rw [e]; exact ⟨rfl, rfl⟩
    | succ j =>
      have := ih j (by simpa using h)
      rw [e, show (j + 1) * 2 = j * 2 + 1 + 1 by omega]
      exact this
theorem flat_lines {R : List S37} [Inhabited (TagLine R)] (d : List (TagLine R)) : (flatK encLine 2 d.toArray).toList = lineCells (d.map Subtype.val) := by
  apply List.ext_getElem?
  intro i
  by_cases hi : i < d.length * 2
  · have hi2 : i / 2 < d.length := by omega
    have hm : i / 2 < (d.map Subtype.val).length := by simp; exact hi2
    obtain ⟨l1, l2⟩ := lineCells_at (d.map Subtype.val) (i / 2) hm
    have hsz : i < (flatK encLine 2 d.toArray).size := by simp; exact hi
    have hg := get_flatK encLine 2 d.toArray i (by simp; exact hi)
    rw [getElem!_pos _ i hsz] at hg
    rw [Array.getElem?_toList, Array.getElem?_eq_getElem hsz, hg]
    have hd : d.toArray[i / 2]! = d[i / 2] := by simp [getElem!_pos, hi2]
    rw [hd]
    have : i = i / 2 * 2 ∨ i = i / 2 * 2 + 1 := by omega
    rcases this with e | e
    · have e2 : i % 2 = 0 := by omega
      conv => rhs; rw [e]
      rw [l1, e2]
      simp [encLine]
    · have e2 : i % 2 = 1 := by omega
      conv => rhs; rw [e]
      rw [l2, e2]
      simp [encLine]
  · rw [List.getElem?_eq_none (by simp; omega), List.getElem?_eq_none (by rw [lineCells_len]; simp; omega)]
theorem sortRows_tagged (R : List S37) (h : ∀ x ∈ R, 0 ≤ x.f0 ∧ x.f0 ≤ 4611686018427387904) : ((tagged R h).mergeSort fun x y => !(ltOf byTag) y x).map Subtype.val = sortRows R := by
  unfold sortRows
  rw [List.map_mergeSort (s := fun x y : S37 => !decide (y.f0 < x.f0)) (fun a _ b _ => by rw [ltTag]), tagged_map]
theorem holds_lines {W : World} {base : Nat} {ok : Nat → Prop} {g n cap : Nat} {R : List S37} [Inhabited (TagLine R)] (h : k37.R 37 W base ok (.slice (some ⟨g, 0, none⟩) n cap) R) (ht : ∀ x ∈ R, 0 ≤ x.f0 ∧ x.f0 ≤ 4611686018427387904) : HoldsK encLine 2 W g 0 (tagged R ht).toArray := by
  intro j hj
  obtain ⟨hn, hnc, hC⟩ := Kd.R_reads' h
  have hlen : (tagged R ht).length = R.length := by simp [tagged]
  simp only [size_flatK, List.size_toArray, hlen] at hj
  have hj2 : j / 2 < R.length := by omega
  obtain ⟨g', cells, hA, hbg, hgl, hok, hh, _, _⟩ := R_shape h (by omega) (by show 0 < 2; omega)
  injection hA with hA
  injection hA with hA
  subst hA
  refine ⟨?_, blk_frozen hh _⟩
  obtain ⟨ad, ead, q0, q1⟩ := at_T37 hC ((j / 2 : Nat) : Int) (by omega) (by omega)
  injection ead with ead
  subst ead
  simp only [Int.toNat_natCast, Addr.add_lit, Nat.zero_add] at q0 q1
  rw [Nat.zero_add]
  have er : rd_T37 R ((j / 2 : Nat) : Int) = R[j / 2] := by
    show R.getD ((j / 2 : Nat) : Int).toNat z37 = _
    rw [Int.toNat_natCast, List.getD_eq_getElem?_getD, List.getElem?_eq_getElem hj2]; rfl
  rw [er] at q0 q1
  have hg := get_flatK encLine 2 (tagged R ht).toArray j (by rw [List.size_toArray, hlen]; exact hj)
  show _ = some (id _)
  rw [id, hg]
  have hd : (tagged R ht).toArray[j / 2]! = (tagged R ht)[j / 2]'(by rw [hlen]; exact hj2) := by simp [getElem!_pos, hlen, hj2]
  have hd1 : ((tagged R ht)[j / 2]'(by rw [hlen]; exact hj2)).1 = R[j / 2] := by simp [tagged]
  rw [hd]
  have : j = j / 2 * 2 ∨ j = j / 2 * 2 + 1 := by omega
  rcases this with e | e
  · have e2 : j % 2 = 0 := by omega
    conv => lhs; rw [e]
    rw [q0, e2]
    simp [encLine, hd1]
  · have e2 : j % 2 = 1 := by omega
    conv => lhs; rw [e]
    rw [q1, e2]
    simp [encLine, hd1]
theorem sort_calls {W : World} {base : Nat} {ok : Nat → Prop} {A : Option Addr} {n cap : Nat} {R : List S37} (h : k37.R 37 W base ok (.slice A n cap) R) (h0 : 0 < n) (hn : n < 4611686018427387904)
    (ht : ∀ x ∈ R, 0 ≤ x.f0 ∧ x.f0 ≤ 4611686018427387904) (hu : ∀ x ∈ R, ∀ y ∈ R, x.f0 = y.f0 → x = y) :
    Calls Try.prog 35 #[.slice A n cap, .func (.func 36) #[] #[]] W fun e w' => e = .returned (.tuple #[]) ∧ k37.R 37 w' base ok (.slice A n cap) (sortRows R) ∧ Below base W w' ∧ ∀ k, k < W.heap.size → some k ≠ (Value.slice A n cap).ownBlock → w'.heap[k]? = W.heap[k]? := by
  have hnR := (Kd.R_reads' h).1
  obtain ⟨g, cells, hA, hbg, hgl, hok, hh, _, _⟩ := R_shape h h0 (by show 0 < 2; omega)
  subst hA
  haveI : Inhabited (TagLine R) := ⟨⟨R[0]'(by omega), List.getElem_mem _, ht _ (List.getElem_mem _)⟩⟩
  have eg : ∀ args w, (callFunc 36 args).run Try.prog w = .ok (.enter 36 args) w := enters_of Try.func36 (by kernel_rfl) rfl
  have hds : (tagged R ht).toArray.size = n := by simp [tagged, hnR]
  have hH := holds_lines h ht
  have hcon := AnyQ.slices_SortFunc_total Try.sortLine 2 isAgg37 sizeOf37 (encLine (R := R)) (fun _ => rfl) (fun x v hv => by simp [encLine] at hv; rcases hv with rfl | rfl <;> rfl) byTag swoTag 36 #[] g 0 cap (tagged R ht).toArray W eg (fun _ _ _ _ x y => Tables1_calls x y _) hH hgl (by omega) (fun x y h1 h2 => by
    rw [ltTag] at h1 h2
    simp at h1 h2
    exact Subtype.ext (hu _ x.2.1 _ y.2.1 (by omega)))
  have hF : (flatK encLine 2 ((tagged R ht).toArray.toList.mergeSort fun x y => !(ltOf byTag) y x).toArray).toList = lineCells (sortRows R) := by
    rw [flat_lines, sortRows_tagged]
  rw [hds] at hcon
  change Calls Try.prog 35 _ _ _ at hcon
  simp only [sortWorldK, putRowK] at hcon
  generalize flatK encLine 2 ((tagged R ht).toArray.toList.mergeSort fun x y => !(ltOf byTag) y x).toArray = F at hF hcon
  refine hcon.mono ?_
  rintro e w' ⟨he, q, os, hw⟩
  obtain ⟨r1, r2, r3⟩ := sorted_row h (sortRows R) (by rw [sortRows_len, hnR]) q os F hF
  rw [hw]
  exact ⟨he, r1, r2, fun k h1 h2 => r3 k h1 (fun e => h2 (by subst e; rfl))⟩
end Go.Proofs.Ytedghbjmhcgilaa.A
end
section
namespace Go.Proofs.Ytedghbjmhcgilaa.A
open Go.RowKit Go.Shelf Go.Proofs.YtedghbjmhcgilaaW.PrintWords Go.Proofs.YtedghbjmhcgilaaW.PrintLast Go.Proofs.YtedghbjmhcgilaaW.PrintMore
open Go.Proofs.Ytedghbjmhcgilaa.POpt
set_option linter.unusedVariables false
set_option linter.unusedSimpArgs false
def hasTag (R : List S37) (t : Int) : Bool := R.any (fun r => r.f0 == t)
def addTag (R : List S37) (t : Int) (at_ : Nat) : List S37 := if hasTag R t = true then R else R ++ [⟨t, (at_ : Int) + 1⟩]
def tabGo (l0 : List S35) : Nat → List S37 → Nat → List S37 × Nat
  | 0, R, a => (R, a)
  | f + 1, R, a =>
    if a < l0.length ∧ (l0.getD a z35).f0 = 2 then
      if (l0.getD a z35).f2 ≤ (a : Int) then (addTag R (l0.getD a z35).f1 a, a) else tabGo l0 f (addTag R (l0.getD a z35).f1 a) (l0.getD a z35).f2.toNat
    else (R, a)
theorem hasTag_add (R : List S37) (t : Int) (a : Nat) (x : Int) : hasTag (addTag R t a) x = (x == t || hasTag R x) := by
  unfold addTag
  by_cases h : hasTag R t = true
  · rw [if_pos h]
    by_cases hx : x = t
    · subst hx; simp [h]
    · simp [hx]
  · rw [if_neg h]
    unfold hasTag
    rw [List.any_append]
    simp only [List.any_cons, List.any_nil, Bool.or_false]
    rw [Bool.or_comm]
    congr 1
    by_cases hx : t = x
    · subst hx; simp
    · rw [beq_eq_false_iff_ne.mpr hx, beq_eq_false_iff_ne.mpr (fun e => hx e.symm)]
end Go.Proofs.Ytedghbjmhcgilaa.A
end
section
namespace Go.Proofs.Ytedghbjmhcgilaa.A
open Go.RowKit Go.Shelf Go.Maps Go.Proofs.YtedghbjmhcgilaaW.PrintWords Go.Proofs.YtedghbjmhcgilaaW.PrintLast Go.Proofs.YtedghbjmhcgilaaW.PrintMore
open Go.Proofs.Ytedghbjmhcgilaa.POpt
set_option linter.unusedVariables false
set_option linter.unusedSimpArgs false
theorem zero49 (w : World) : (zeroValue 49).run Try.prog w = .ok (.agg #[]) w := by kernel_rfl
def SMap (W : World) (b N : Nat) (S : Int → Bool) : Prop :=
  ∃ D : DataW Unit, W.ownsMap Try.prog 3 unitElem b N D ∧ Maps.IsMap D ∧ ∀ k : Int, (Lit.int .i64 k).wf = true → Maps.has D (.int .i64 k) = S k
theorem SMap.put_law {W' : World} {b N : Nat} {S : Int → Bool} {D : DataW Unit} (k : Int)
    (hm : Maps.IsMap D) (hf : ∀ k : Int, (Lit.int .i64 k).wf = true → Maps.has D (.int .i64 k) = S k)
    (h : W'.ownsMap Try.prog 3 unitElem b (N + 1) (D.put (.int .i64 k) (.agg []))) : SMap W' b (N + 1) (fun x => x == k || S x) := by
  refine ⟨_, h, hm.put _ _, fun x hx => ?_⟩
  have hkl : WideAt.IsKeyLit (Lit.int .i64 k) := trivial
  by_cases hxk : x = k
  · subst hxk
    rw [Maps.has_put_same hm hkl]; simp
  · have hne : (Lit.int .i64 x) ≠ .int .i64 k := fun e => hxk (by injection e)
    rw [Maps.has_put_other hne, hf x hx]
    simp [hxk]
theorem SMap.look {W : World} {b N : Nat} {S : Int → Bool} (h : SMap W b N S) (k : Int) (hk : (Lit.int .i64 k).wf = true) :
    (Instr.lookup 48 (.map (some b)) (.int .i64 k) true).run Try.prog W = .ok (.tuple #[.agg #[], .bool (S k)]) W := by
  obtain ⟨D, ho, hm, hf⟩ := h
  obtain ⟨v, ps, hrun, hv⟩ := ho.look_ok law3 Try.underlying48 (zero49 W) unitElem_mk (keyOf_int_mk Try.underlying3 hk)
  obtain ⟨rfl, _⟩ := unitElem_inv hv
  rw [hrun, hf k hk]
theorem SMap.made (w : World) : SMap (w.alloc (.map #[] 0)) w.heap.size 0 (fun _ => false) :=
  ⟨_, World.ownsMap_made w Try.prog 3 _, Maps.isMap_empty, fun k hk => rfl⟩
theorem SMap.same {W W' : World} {b N : Nat} {S : Int → Bool} (h : SMap W b N S) (hb : W'.heap[b]? = W.heap[b]?) : SMap W' b N S := by
  obtain ⟨D, ⟨es, clock, h1, h2⟩, r⟩ := h
  exact ⟨D, ⟨es, clock, hb.trans h1, h2⟩, r⟩
theorem SMap.lt {W : World} {b N : Nat} {S : Int → Bool} (h : SMap W b N S) : b < W.heap.size := by
  obtain ⟨D, ⟨es, clock, h1, h2⟩, r⟩ := h
  exact (Array.getElem?_eq_some_iff.1 h1).1
end Go.Proofs.Ytedghbjmhcgilaa.A
end
section
namespace Go.Proofs.Ytedghbjmhcgilaa.A
open Go.RowKit Go.Shelf Go.Maps Go.Proofs.YtedghbjmhcgilaaW.PrintWords Go.Proofs.YtedghbjmhcgilaaW.PrintLast Go.Proofs.YtedghbjmhcgilaaW.PrintMore
open Go.Proofs.Ytedghbjmhcgilaa.POpt
attribute [local go_sem] Oper.semAt_some
set_option linter.unusedVariables false
set_option linter.unusedSimpArgs false
set_option maxRecDepth 100000 in
set_option maxHeartbeats 2000000 in
theorem Tables_stay (A0 : Option Addr) (c0 : Nat) (l0 : List S35) (A1 : Option Addr) (c1 : Nat) (l1 : List S35) (A2 : Option Addr) (c2 : Nat) (l2 : List S37) (w : World)
    (hr0 : Kd.C k35 w A0 l0.length l0) (hc0 : l0.length ≤ c0) (hr1 : Kd.C k35 w A1 l1.length l1) (hc1 : l1.length ≤ c1) (hr2 : Kd.C k37 w A2 l2.length l2) (hc2 : l2.length ≤ c2)
    (hf : fitB l0 l1 l2 = true) (hw0 : ∀ x ∈ l0, wfS x) (hw1 : ∀ x ∈ l1, wfS x) (hw2 : ∀ x ∈ l2, wfI x.f1) (hstay : 0 < l2.length ∨ (l2.length = 0 ∧ l0.length < 2) ∨ (l2.length = 0 ∧ ∃ h : 1 < l0.length, (l0[1]).f0 ≠ 2)) :
    Calls Try.prog 11 #[.agg #[.slice A0 l0.length c0, .slice A1 l1.length c1, .slice A2 l2.length c2]] w fun e w' => ∃ v0_ v1_ v2_ : Value, e = .returned (.agg #[v0_, v1_, v2_]) ∧ Kd.R k35 35 w' w.heap.size (fun k_ => some k_ ≠ (v1_ : Value).ownBlock) v0_ l0 ∧ Kd.R k35 35 w' w.heap.size (fun k_ => some k_ ≠ (v0_ : Value).ownBlock) v1_ l1 ∧ Kd.R k37 37 w' w.heap.size (fun _ => True) v2_ l2 ∧ Below w.heap.size w w' := by
  have HST := Lib.hid hstay
  clear hstay
  obtain ⟨f0, f1, f2⟩ := fitB_iff.1 hf
  have hcp := copied_some f0 f1 f2
  go_enter Try.func11, Try.ntmps11
  have HR0 := Lib.hid hr0
  have HR1 := Lib.hid hr1
  have HR2 := Lib.hid hr2
  have HW0 := Lib.hid hw0
  have HW1 := Lib.hid hw1
  have HW2 := Lib.hid hw2
  have HCP := Lib.hid hcp
  clear hr0 hr1 hr2 hw0 hw1 hw2 hcp
  go_wp2_with fail
  have hbA : Below w.heap.size w ((w.alloc (.cells #[.slice A0 l0.length c0, .slice A1 l1.length c1, .slice A2 l2.length c2] 30)).alloc (.cells #[.slice none 0 0, .slice none 0 0, .slice none 0 0] 30)) := ((Below.refl _ _).alloc (Nat.le_refl _) _).alloc (by simp) _
  refine (opt_copied.calls A0 c0 l0 A1 c1 l1 A2 c2 l2 l0 l1 l2 _ (Kd.C_below HR0.out hbA) hc0 (Kd.C_below HR1.out hbA) hc1 (Kd.C_below HR2.out hbA) hc2 HCP.out).mono ?_
  rintro e w1 ⟨v0, v1, v2, rfl, hV0, hV1, hV2, hB1⟩
  have b1 : w1.heap[w.heap.size]? = some (.cells #[.slice A0 l0.length c0, .slice A1 l1.length c1, .slice A2 l2.length c2] 30 (0, 0)) := blk_below (blk_alloc (blk_new _ _) _) hB1
  have b2 : w1.heap[w.heap.size + 1]? = some (.cells #[.slice none 0 0, .slice none 0 0, .slice none 0 0] 30 (0, 0)) := blk_below (by have := blk_new (w.alloc (.cells #[.slice A0 l0.length c0, .slice A1 l1.length c1, .slice A2 l2.length c2] 30)) (.cells #[.slice none 0 0, .slice none 0 0, .slice none 0 0] 30); simpa using this) hB1
  have hBw : Below w.heap.size w w1 := hbA.trans (hB1.mono (by simp; omega))
  have n02 := own_ne_of_types hV0 hV2
  have n12 := own_ne_of_types hV1 hV2
  have hV0' := Kd.R_bound hV0
  have hV1' := Kd.R_bound hV1
  have hV2' := Kd.R_bound hV2
  simp only [World.size_alloc] at hV0' hV1' hV2'
  have z1 := hB1.size
  simp only [World.size_alloc] at z1
  have z1a : w.heap.size < w1.heap.size := by omega
  have z1b : w.heap.size + 1 < w1.heap.size := by omega
  obtain ⟨a0, d0, e0⟩ := Kd.R_slice hV0'
  obtain ⟨a1, d1, e1⟩ := Kd.R_slice hV1'
  obtain ⟨a2, d2, e2⟩ := Kd.R_slice hV2'
  subst e0 e1 e2
  have B1 := Lib.hid b1
  have B2 := Lib.hid b2
  have HV0 := Lib.hid hV0'
  have HV1 := Lib.hid hV1'
  have HV2 := Lib.hid hV2'
  have HBw := Lib.hid hBw
  have k1a := blk_cell b1 0
  have k1b := blk_cell b1 1
  have k1c := blk_cell b1 2
  have f1a := blk_frozen b1 0
  have f1b := blk_frozen b1 1
  have f1c := blk_frozen b1 2
  simp only [List.getElem?_toArray, List.getElem?_cons_zero, List.getElem?_cons_succ] at k1a k1b k1c
  have N02 := Lib.hid n02
  have N12 := Lib.hid n12
  clear hbA hV0 hV1 hV2 hB1 b1 b2 hBw hV0' hV1' hV2' n02 n12
  have b2 := B2.out
  have r5a := blk_cell b2 0
  have r5b := blk_cell b2 1
  have r5c := blk_cell b2 2
  have g5a := blk_frozen b2 0
  have g5b := blk_frozen b2 1
  have g5c := blk_frozen b2 2
  simp only [List.getElem?_toArray, List.getElem?_cons_zero, List.getElem?_cons_succ] at r5a r5b r5c
  clear b2
  rcases HST.out with h | ⟨h, h2⟩ | ⟨h, h1, h2⟩
  · have t0 : (0 : Int) < (l2.length : Int) := by omega
    have tn : (l2 = []) = False := by apply eq_false; intro e; rw [e] at h; exact absurd h (by decide)
    clear h
    dsimp only
    go_wp2_with fail
    have hZ : ∀ k, k ≠ w.heap.size → k ≠ w.heap.size + 1 → ((((((w1.setCell ⟨w.heap.size, 0, none⟩ (.slice a0 l0.length d0)).setCell ⟨w.heap.size, 1, none⟩ (.slice a1 l1.length d1)).setCell ⟨w.heap.size, 2, none⟩ (.slice a2 l2.length d2)).setCell ⟨w.heap.size + 1, 0, none⟩ (.slice a0 l0.length d0)).setCell ⟨w.heap.size + 1, 1, none⟩ (.slice a1 l1.length d1)).setCell ⟨w.heap.size + 1, 2, none⟩ (.slice a2 l2.length d2)).heap[k]? = w1.heap[k]? := fun k h1 h2 => by
      rw [Below.heap_setCell _ _ _ _ h2, Below.heap_setCell _ _ _ _ h2, Below.heap_setCell _ _ _ _ h2, Below.heap_setCell _ _ _ _ h1, Below.heap_setCell _ _ _ _ h1, Below.heap_setCell _ _ _ _ h1]
    refine bodyPost_ret (results_cell_row rfl _ _ (w.heap.size + 1) 30 #[.slice a0 l0.length d0, .slice a1 l1.length d1, .slice a2 l2.length d2] (0, 0) _ rfl (blk_set (blk_set (blk_set (((Below.heap_setCell _ _ _ _ (by show w.heap.size + 1 ≠ w.heap.size; omega)).trans ((Below.heap_setCell _ _ _ _ (by show w.heap.size + 1 ≠ w.heap.size; omega)).trans (Below.heap_setCell _ _ _ _ (by show w.heap.size + 1 ≠ w.heap.size; omega)))).trans B2.out) 0 _) 1 _) 2 _) Try.underlying30 rfl (by kernel_rfl)) rfl ?_
    refine ⟨_, _, _, rfl, ?_, ?_, ?_, ?_⟩
    · exact Kd.R_lower (Kd.R_mono (Kd.R_move HV0.out (fun k hk => hZ k (by have := hk.2.1; omega) (by have := hk.2.1; omega))) (fun k hk => hk.1)) (by omega)
    · exact Kd.R_lower (Kd.R_mono (Kd.R_move HV1.out (fun k hk => hZ k (by have := hk.2.1; omega) (by have := hk.2.1; omega))) (fun k hk => hk.1)) (by omega)
    · exact Kd.R_lower (Kd.R_mono (Kd.R_move HV2.out (fun k hk => hZ k (by have := hk.2.1; omega) (by have := hk.2.1; omega))) (fun _ _ => trivial)) (by omega)
    · exact (((((HBw.out.setCell (p := ⟨w.heap.size, 0, none⟩) (Nat.le_refl _) _).setCell (p := ⟨w.heap.size, 1, none⟩) (Nat.le_refl _) _).setCell (p := ⟨w.heap.size, 2, none⟩) (Nat.le_refl _) _).setCell (p := ⟨w.heap.size + 1, 0, none⟩) (by show w.heap.size ≤ w.heap.size + 1; omega) _).setCell (p := ⟨w.heap.size + 1, 1, none⟩) (by show w.heap.size ≤ w.heap.size + 1; omega) _).setCell (p := ⟨w.heap.size + 1, 2, none⟩) (by show w.heap.size ≤ w.heap.size + 1; omega) _
  · have tn : (l2 = []) = True := by apply eq_true; exact List.eq_nil_of_length_eq_zero h
    have t0 : ((0 : Int) < (l2.length : Int)) = False := by apply eq_false; omega
    have t1 : (l0.length : Int) < 2 := by omega
    clear h h2
    dsimp only
    go_wp2_with fail
    have hZ : ∀ k, k ≠ w.heap.size → k ≠ w.heap.size + 1 → ((((((w1.setCell ⟨w.heap.size, 0, none⟩ (.slice a0 l0.length d0)).setCell ⟨w.heap.size, 1, none⟩ (.slice a1 l1.length d1)).setCell ⟨w.heap.size, 2, none⟩ (.slice a2 l2.length d2)).setCell ⟨w.heap.size + 1, 0, none⟩ (.slice a0 l0.length d0)).setCell ⟨w.heap.size + 1, 1, none⟩ (.slice a1 l1.length d1)).setCell ⟨w.heap.size + 1, 2, none⟩ (.slice a2 l2.length d2)).heap[k]? = w1.heap[k]? := fun k h1 h2 => by
      rw [Below.heap_setCell _ _ _ _ h2, Below.heap_setCell _ _ _ _ h2, Below.heap_setCell _ _ _ _ h2, Below.heap_setCell _ _ _ _ h1, Below.heap_setCell _ _ _ _ h1, Below.heap_setCell _ _ _ _ h1]
    refine bodyPost_ret (results_cell_row rfl _ _ (w.heap.size + 1) 30 #[.slice a0 l0.length d0, .slice a1 l1.length d1, .slice a2 l2.length d2] (0, 0) _ rfl (blk_set (blk_set (blk_set (((Below.heap_setCell _ _ _ _ (by show w.heap.size + 1 ≠ w.heap.size; omega)).trans ((Below.heap_setCell _ _ _ _ (by show w.heap.size + 1 ≠ w.heap.size; omega)).trans (Below.heap_setCell _ _ _ _ (by show w.heap.size + 1 ≠ w.heap.size; omega)))).trans B2.out) 0 _) 1 _) 2 _) Try.underlying30 rfl (by kernel_rfl)) rfl ?_
    refine ⟨_, _, _, rfl, ?_, ?_, ?_, ?_⟩
    · exact Kd.R_lower (Kd.R_mono (Kd.R_move HV0.out (fun k hk => hZ k (by have := hk.2.1; omega) (by have := hk.2.1; omega))) (fun k hk => hk.1)) (by omega)
    · exact Kd.R_lower (Kd.R_mono (Kd.R_move HV1.out (fun k hk => hZ k (by have := hk.2.1; omega) (by have := hk.2.1; omega))) (fun k hk => hk.1)) (by omega)
    · exact Kd.R_lower (Kd.R_mono (Kd.R_move HV2.out (fun k hk => hZ k (by have := hk.2.1; omega) (by have := hk.2.1; omega))) (fun _ _ => trivial)) (by omega)
    · exact (((((HBw.out.setCell (p := ⟨w.heap.size, 0, none⟩) (Nat.le_refl _) _).setCell (p := ⟨w.heap.size, 1, none⟩) (Nat.le_refl _) _).setCell (p := ⟨w.heap.size, 2, none⟩) (Nat.le_refl _) _).setCell (p := ⟨w.heap.size + 1, 0, none⟩) (by show w.heap.size ≤ w.heap.size + 1; omega) _).setCell (p := ⟨w.heap.size + 1, 1, none⟩) (by show w.heap.size ≤ w.heap.size + 1; omega) _).setCell (p := ⟨w.heap.size + 1, 2, none⟩) (by show w.heap.size ≤ w.heap.size + 1; omega) _
  · have tn : (l2 = []) = True := by apply eq_true; exact List.eq_nil_of_length_eq_zero h
    have t0 : ((0 : Int) < (l2.length : Int)) = False := by apply eq_false; omega
    have t1 : ¬ (l0.length : Int) < 2 := by omega
    have t2 : (1 : Int) < (l0.length : Int) := by omega
    obtain ⟨g, cells, hA, hbg, hgl, hok, hh, hx1, hx2⟩ := R_shape HV0.out (by omega) (by show 0 < 5; omega)
    subst hA
    obtain ⟨hy1, hy2, hC⟩ := Kd.R_reads' HV0.out
    obtain ⟨ad, ead, q0, _⟩ := at_T35 hC (1 : Int) (by omega) (by omega)
    injection ead with ead
    subst ead
    have er : rd_T35 l0 (1 : Int) = l0[1] := by
      show l0.getD (1 : Int).toNat z35 = _
      rw [show (1 : Int).toNat = 1 from rfl, List.getD_eq_getElem?_getD, List.getElem?_eq_getElem h1]; rfl
    rw [er] at q0
    simp only [Addr.add_lit, Nat.zero_add] at q0
    have q0' : w1.cell? ⟨g, 5, none⟩ = some (.int .i64 (l0[1]).f0) := q0
    have hgne : g ≠ w.heap.size := by have := hok.2.1; omega
    have hgl' : g < w1.heap.size := hgl
    generalize (l0[1]).f0 = o1 at q0' h2
    have t3 : (o1 != 2) = true := bne_iff_ne.mpr h2
    have t4 : (o1 == 2) = false := beq_eq_false_iff_ne.mpr h2
    clear h h2 hx1 hx2 hy1 hy2 hC q0 er hh hbg hok
    dsimp only
    go_wp2_with fail
    have hZ : ∀ k, k ≠ w.heap.size → k ≠ w.heap.size + 1 → ((((((w1.setCell ⟨w.heap.size, 0, none⟩ (.slice (some ⟨g, 0, none⟩) l0.length d0)).setCell ⟨w.heap.size, 1, none⟩ (.slice a1 l1.length d1)).setCell ⟨w.heap.size, 2, none⟩ (.slice a2 l2.length d2)).setCell ⟨w.heap.size + 1, 0, none⟩ (.slice (some ⟨g, 0, none⟩) l0.length d0)).setCell ⟨w.heap.size + 1, 1, none⟩ (.slice a1 l1.length d1)).setCell ⟨w.heap.size + 1, 2, none⟩ (.slice a2 l2.length d2)).heap[k]? = w1.heap[k]? := fun k h1 h2 => by
      rw [Below.heap_setCell _ _ _ _ h2, Below.heap_setCell _ _ _ _ h2, Below.heap_setCell _ _ _ _ h2, Below.heap_setCell _ _ _ _ h1, Below.heap_setCell _ _ _ _ h1, Below.heap_setCell _ _ _ _ h1]
    refine bodyPost_ret (results_cell_row rfl _ _ (w.heap.size + 1) 30 #[.slice (some ⟨g, 0, none⟩) l0.length d0, .slice a1 l1.length d1, .slice a2 l2.length d2] (0, 0) _ rfl (blk_set (blk_set (blk_set (((Below.heap_setCell _ _ _ _ (by show w.heap.size + 1 ≠ w.heap.size; omega)).trans ((Below.heap_setCell _ _ _ _ (by show w.heap.size + 1 ≠ w.heap.size; omega)).trans (Below.heap_setCell _ _ _ _ (by show w.heap.size + 1 ≠ w.heap.size; omega)))).trans B2.out) 0 _) 1 _) 2 _) Try.underlying30 rfl (by kernel_rfl)) rfl ?_
    refine ⟨_, _, _, rfl, ?_, ?_, ?_, ?_⟩
    · exact Kd.R_lower (Kd.R_mono (Kd.R_move HV0.out (fun k hk => hZ k (by have := hk.2.1; omega) (by have := hk.2.1; omega))) (fun k hk => hk.1)) (by omega)
    · exact Kd.R_lower (Kd.R_mono (Kd.R_move HV1.out (fun k hk => hZ k (by have := hk.2.1; omega) (by have := hk.2.1; omega))) (fun k hk => hk.1)) (by omega)
    · exact Kd.R_lower (Kd.R_mono (Kd.R_move HV2.out (fun k hk => hZ k (by have := hk.2.1; omega) (by have := hk.2.1; omega))) (fun _ _ => trivial)) (by omega)
    · exact (((((HBw.out.setCell (p := ⟨w.heap.size, 0, none⟩) (Nat.le_refl _) _).setCell (p := ⟨w.heap.size, 1, none⟩) (Nat.le_refl _) _).setCell (p := ⟨w.heap.size, 2, none⟩) (Nat.le_refl _) _).setCell (p := ⟨w.heap.size + 1, 0, none⟩) (by show w.heap.size ≤ w.heap.size + 1; omega) _).setCell (p := ⟨w.heap.size + 1, 1, none⟩) (by show w.heap.size ≤ w.heap.size + 1; omega) _).setCell (p := ⟨w.heap.size + 1, 2, none⟩) (by show w.heap.size ≤ w.heap.size + 1; omega) _
end Go.Proofs.Ytedghbjmhcgilaa.A
end
section
namespace Go.Proofs.Ytedghbjmhcgilaa.A
open Go.RowKit Go.Shelf Go.Proofs.YtedghbjmhcgilaaW.PrintWords Go.Proofs.YtedghbjmhcgilaaW.PrintLast Go.Proofs.YtedghbjmhcgilaaW.PrintMore
open Go.Proofs.Ytedghbjmhcgilaa.POpt
set_option linter.unusedVariables false
set_option linter.unusedSimpArgs false
def Rising (L : List S37) : Prop := L.Pairwise (fun x y => x.f0 < y.f0)
theorem rising_unique : ∀ {A B : List S37}, Rising A → Rising B → (∀ x, x ∈ A ↔ x ∈ B) → A = B
  | [], [], _, _, _ => rfl
  | [], b :: B, _, _, h => by have := (h b).2 (by simp); simp at this
  | a :: A, [], _, _, h => by have := (h a).1 (by simp); simp at this
  | a :: A, b :: B, hA, hB, h => by
    have hA' := List.pairwise_cons.1 hA
    have hB' := List.pairwise_cons.1 hB
    have hab : a = b := by
      rcases List.mem_cons.1 ((h a).1 (by simp)) with e | e
      · exact e
      · rcases List.mem_cons.1 ((h b).2 (by simp)) with e2 | e2
        · exact e2.symm
        · have := hA'.1 b e2; have := hB'.1 a e; omega
    subst hab
    have : A = B := rising_unique hA'.2 hB'.2 (fun x => by
      constructor
      · intro hx
        rcases List.mem_cons.1 ((h x).1 (List.mem_cons_of_mem _ hx)) with e | e
        · subst e; have := hA'.1 x hx; omega
        · exact e
      · intro hx
        rcases List.mem_cons.1 ((h x).2 (List.mem_cons_of_mem _ hx)) with e | e
        · subst e; have := hB'.1 x hx; omega
        · exact e)
    rw [this]
def Once (R : List S37) : Prop := R.Pairwise (fun x y => x.f0 ≠ y.f0)
theorem hasTag_iff {R : List S37} {t : Int} : hasTag R t = true ↔ ∃ x ∈ R, x.f0 = t := by
  unfold hasTag; rw [List.any_eq_true]; simp
theorem once_add {R : List S37} (h : Once R) (t : Int) (a : Nat) : Once (addTag R t a) := by
  unfold addTag
  by_cases ht : hasTag R t = true
  · rw [if_pos ht]; exact h
  · rw [if_neg ht]
    unfold Once
    rw [List.pairwise_append]
    refine ⟨h, by simp, fun x hx y hy => ?_⟩
    simp only [List.mem_singleton] at hy
    subst hy
    intro e
    exact ht (hasTag_iff.2 ⟨x, hx, e⟩)
theorem mem_sortRows {R : List S37} {x : S37} : x ∈ sortRows R ↔ x ∈ R := by
  unfold sortRows; exact List.mem_mergeSort
theorem rising_sort {R : List S37} (h : Once R) : Rising (sortRows R) := by
  have hp : (sortRows R).Perm R := List.mergeSort_perm R _
  have h1 : Once (sortRows R) := (hp.pairwise_iff (R := fun x y : S37 => x.f0 ≠ y.f0) (fun hxy e => hxy e.symm)).2 h
  have h2 : (sortRows R).Pairwise (fun x y => (!decide (y.f0 < x.f0)) = true) := List.pairwise_mergeSort (le := fun x y : S37 => !decide (y.f0 < x.f0)) (fun a b c h1 h2 => by simp at *; omega) (fun a b => by simp; omega) R
  refine List.Pairwise.imp₂ (fun x y hn hle => ?_) h1 h2
  simp at hle
  omega
end Go.Proofs.Ytedghbjmhcgilaa.A
end
section
namespace Go.Proofs.Ytedghbjmhcgilaa.A
open Go.RowKit Go.Shelf Go.Proofs.YtedghbjmhcgilaaW.PrintWords Go.Proofs.YtedghbjmhcgilaaW.PrintLast Go.Proofs.YtedghbjmhcgilaaW.PrintMore
open Go.Proofs.Ytedghbjmhcgilaa.POpt
set_option linter.unusedVariables false
set_option linter.unusedSimpArgs false
def at5 (l : List S35) (i : Nat) : S35 := l.getD i z35
theorem at5_lt {l : List S35} {i : Nat} (h : i < l.length) : at5 l i = l[i] := by simp [at5, h]
structure GoodD (l : List S35) (r : List S37) : Prop where
  pos : 0 < l.length
  head : (at5 l 0).f0 = 1
  last : (at5 l (l.length - 1)).f0 = 4
  op : ∀ i, i < l.length → 1 ≤ (at5 l i).f0 ∧ (at5 l i).f0 ≤ 15
  tag : ∀ i, i < l.length → (at5 l i).f0 = 1 → i = 0
  cas : ∀ i, i < l.length → (at5 l i).f0 = 2 → (i : Int) < (at5 l i).f2 ∧ (at5 l i).f2 < l.length
  jump : ∀ i, i < l.length → (at5 l i).f0 = 3 → (i : Int) < (at5 l i).f1 ∧ (at5 l i).f1 < l.length
  go : ∀ i, i < l.length → (at5 l i).f0 = 4 → (at5 l i).f1 = 0 ∨ ((i : Int) < (at5 l i).f1 ∧ (at5 l i).f1 < l.length)
  rows : ∀ y ∈ r, 0 < y.f1 ∧ y.f1 < l.length
  rowsJ : ∀ y ∈ r, ∀ i, i < l.length → (at5 l i).f0 = 3 → (i : Int) < y.f1
  bare : r = [] → ∀ i, i < l.length → (at5 l i).f0 ≠ 3
structure GoodE (l : List S35) : Prop where
  pos : 0 < l.length
  op : ∀ i, i < l.length → 16 ≤ (at5 l i).f0 ∧ (at5 l i).f0 ≤ 25
  fin : ∀ i, i < l.length → ((at5 l i).f0 = 24 ↔ i = l.length - 1)
  has : ∀ i, i < l.length → (at5 l i).f0 = 16 → (i : Int) < (at5 l i).f2 ∧ (at5 l i).f2 < l.length
def tabP (l0 : List S35) (l2 : List S37) : List S35 × List S37 :=
  if 0 < l2.length ∨ l0.length < 2 ∨ (at5 l0 1).f0 ≠ 2 then (l0, l2) else (l0.set 1 ⟨3, ((tabGo l0 l0.length [] 1).2 : Int), 0, 0, 0⟩, sortRows (tabGo l0 l0.length [] 1).1)
end Go.Proofs.Ytedghbjmhcgilaa.A
end
section
namespace Go.Proofs.Ytedghbjmhcgilaa.A
open Go.RowKit Go.Shelf Go.Maps Go.Proofs.YtedghbjmhcgilaaW.PrintWords Go.Proofs.YtedghbjmhcgilaaW.PrintLast Go.Proofs.YtedghbjmhcgilaaW.PrintMore
open Go.Proofs.Ytedghbjmhcgilaa.POpt
attribute [local go_sem] Oper.semAt_some
set_option linter.unusedVariables false
set_option linter.unusedSimpArgs false
theorem wf_in {x : Int} (h : wfI x) : -9223372036854775808 ≤ x ∧ x ≤ 9223372036854775807 := by
  have h : (decide (IntKind.i64.min ≤ x) && decide (x ≤ IntKind.i64.max)) = true := h
  rw [Bool.and_eq_true, decide_eq_true_eq, decide_eq_true_eq] at h
  exact h
structure TInv (w w1 : World) (g d0 : Nat) (a1 : Option Addr) (d1 : Nat) (ok0 ok1 : Nat → Prop) (l0 l1 : List S35) (R : List S37) (v : Value) (N : Nat) (W : World) : Prop where
  below : Below w.heap.size w W
  size : w1.heap.size < W.heap.size
  b1 : W.heap[w.heap.size]? = some (.cells #[.slice (some ⟨g, 0, none⟩) l0.length d0, .slice a1 l1.length d1, v] 30 (0, 0))
  b2 : W.heap[w.heap.size + 1]? = some (.cells #[.slice none 0 0, .slice none 0 0, .slice none 0 0] 30 (0, 0))
  r0 : Kd.R k35 35 W (w.heap.size + 2) ok0 (.slice (some ⟨g, 0, none⟩) l0.length d0) l0
  r1 : Kd.R k35 35 W (w.heap.size + 2) ok1 (.slice a1 l1.length d1) l1
  rr : Kd.R k37 37 W (w.heap.size + 2) (fun _ => True) v R
  mp : SMap W w1.heap.size N (hasTag R)
section
variable {w w1 : World} {g d0 : Nat} {a1 : Option Addr} {d1 : Nat} {ok0 ok1 : Nat → Prop} {l0 l1 : List S35} {R : List S37} {v : Value} {N : Nat} {W : World}
theorem tabGo_ne {f : Nat} : ∀ {R : List S37} {a : Nat}, R ≠ [] → (tabGo l0 f R a).1 ≠ [] := by
  induction f with
  | zero => intro R a h; exact h
  | succ f ih =>
    intro R a h
    have hadd : ∀ t, addTag R t a ≠ [] := fun t => by unfold addTag; split; exact h; simp
    rw [tabGo]
    split
    · split
      · exact hadd _
      · exact ih (hadd _)
    · exact h
theorem once_inj {R : List S37} (h : Once R) : ∀ x ∈ R, ∀ y ∈ R, x.f0 = y.f0 → x = y := by
  induction R with
  | nil => intro x hx; cases hx
  | cons z R ih =>
    have h' := List.pairwise_cons.1 h
    intro x hx y hy e
    rcases List.mem_cons.1 hx with ex | hx2 <;> rcases List.mem_cons.1 hy with ey | hy2
    · rw [ex, ey]
    · subst ex; exact absurd e (h'.1 y hy2)
    · subst ey; exact absurd e.symm (h'.1 x hx2)
    · exact ih h'.2 x hx2 y hy2 e
theorem TInv.alloc (h : TInv w w1 g d0 a1 d1 ok0 ok1 l0 l1 R v N W) (o : Obj) : TInv w w1 g d0 a1 d1 ok0 ok1 l0 l1 R v N (W.alloc o) :=
  ⟨h.below.alloc h.below.size _, by have := h.size; simp; omega, blk_alloc h.b1 _, blk_alloc h.b2 _, Kd.R_alloc h.r0 _, Kd.R_alloc h.r1 _, Kd.R_alloc h.rr _, h.mp.same (Below.heap_alloc _ _ _ h.mp.lt)⟩
theorem SMap.isMap {W : World} {b N : Nat} {S : Int → Bool} (h : SMap W b N S) : ∃ es c, W.heap[b]? = some (.map es c) := by
  obtain ⟨D, ⟨es, clock, h1, h2⟩, r⟩ := h
  exact ⟨_, _, h1⟩
theorem TInv.kept (h : TInv w w1 g d0 a1 d1 ok0 ok1 l0 l1 R v N W) {ok : Nat → Prop} (hk : ∀ k, ok k → k < w1.heap.size) {A : Option Addr} {n c : Nat} {xs : List S35} (hr : Kd.R k35 35 W (w.heap.size + 2) ok (.slice A n c) xs) {w3 w5 : World} {v3 : Value}
    (hg : W.grownBy w3 v.ownBlock) (hg5 : (w3.setCell ⟨w.heap.size, 2, none⟩ v3).grownBy w5 (some w1.heap.size)) : Kd.R k35 35 w5 (w.heap.size + 2) ok (.slice A n c) xs := by
  have h1 := Kd.R_bound hr
  refine Kd.R_mono (Kd.R_move h1 (fun k hq => ?_)) (fun k hq => hq.1)
  have hlt := hk k hq.1
  have h3 : k < w3.heap.size := Nat.lt_of_lt_of_le hq.2.2.1 hg.size
  rw [hg5.block k (by simpa [World.setCell] using h3) (fun e => by injection e; omega), Below.heap_setCell _ _ _ _ (show k ≠ w.heap.size by have := hq.2.1; omega), hg.block k hq.2.2.1 (fun e => typed_ne hq.2.2.2 ((Kd.R_bound h.rr).1 _ e.symm).2.2.2)]
theorem TInv.push (h : TInv w w1 g d0 a1 d1 ok0 ok1 l0 l1 R v N W) (hk0 : ∀ k, ok0 k → k < w1.heap.size) (hk1 : ∀ k, ok1 k → k < w1.heap.size) (hz : w.heap.size + 2 ≤ w1.heap.size) {w3 w5 : World} {v3 : Value} {R' : List S37} (ho : Kd.R k37 37 w3 (w.heap.size + 2) (fun _ => True) v3 R') (hb : Below (w.heap.size + 2) W w3) (hg : W.grownBy w3 v.ownBlock) (hg5 : (w3.setCell ⟨w.heap.size, 2, none⟩ v3).grownBy w5 (some w1.heap.size)) (hm : SMap w5 w1.heap.size (N + 1) (hasTag R')) (hm3 : ∃ es c, w3.heap[w1.heap.size]? = some (.map es c)) :
    TInv w w1 g d0 a1 d1 ok0 ok1 l0 l1 R' v3 (N + 1) w5 := by
  have hs := h.size
  have hs3 := hg.size
  have hs5 := hg5.size
  have hss : (w3.setCell ⟨w.heap.size, 2, none⟩ v3).heap.size = w3.heap.size := by simp [World.setCell]
  refine ⟨?_, by omega, ?_, ?_, h.kept hk0 h.r0 hg hg5, h.kept hk1 h.r1 hg hg5, ?_, hm⟩
  · exact ((h.below.trans (hb.mono (by omega))).setCell (p := ⟨w.heap.size, 2, none⟩) (Nat.le_refl _) _).grown hg5 (by rw [hss]; omega) (fun k e => by injection e; omega)
  · exact blk_grown (blk_put ((hb.block w.heap.size (by omega)).trans h.b1) 2 v3 rfl) hg5 (fun e => by injection e; omega)
  · refine blk_grown ?_ hg5 (fun e => by injection e; omega)
    rw [Below.heap_setCell _ _ _ _ (show w.heap.size + 1 ≠ w.heap.size by omega)]
    exact (hb.block _ (by omega)).trans h.b2
  · have h1 := Kd.R_bound ho
    refine Kd.R_mono (Kd.R_move h1 (fun k hq => ?_)) (fun k hq => trivial)
    rw [hg5.block k (by rw [hss]; exact hq.2.2.1) (fun e => ?_), Below.heap_setCell _ _ _ _ (show k ≠ w.heap.size by have := hq.2.1; omega)]
    injection e with e
    subst e
    obtain ⟨es, c, hm3⟩ := hm3
    obtain ⟨q, _, cs, hc⟩ := hq.2.2.2
    rw [hm3] at hc
    cases hc
end
set_option maxRecDepth 100000 in
set_option maxHeartbeats 2000000 in
theorem Tables_chain (A0 : Option Addr) (c0 : Nat) (l0 : List S35) (A1 : Option Addr) (c1 : Nat) (l1 : List S35) (A2 : Option Addr) (c2 : Nat) (l2 : List S37) (w : World)
    (hr0 : Kd.C k35 w A0 l0.length l0) (hc0 : l0.length ≤ c0) (hr1 : Kd.C k35 w A1 l1.length l1) (hc1 : l1.length ≤ c1) (hr2 : Kd.C k37 w A2 l2.length l2) (hc2 : l2.length ≤ c2)
    (hf : fitB l0 l1 l2 = true) (hw0 : ∀ x ∈ l0, wfS x) (hT : ∀ x ∈ l0, x.f0 = 2 → 0 ≤ x.f1 ∧ x.f1 ≤ 4611686018427387904) (h2e : l2.length = 0) (h0n : 2 ≤ l0.length) (h0t : (l0.getD 1 z35).f0 = 2) :
    Calls Try.prog 11 #[.agg #[.slice A0 l0.length c0, .slice A1 l1.length c1, .slice A2 l2.length c2]] w fun e w' => ∃ v0_ v1_ v2_ : Value, e = .returned (.agg #[v0_, v1_, v2_]) ∧ Kd.R k35 35 w' w.heap.size (fun k_ => some k_ ≠ (v1_ : Value).ownBlock) v0_ (l0.set 1 ⟨3, ((tabGo l0 l0.length [] 1).2 : Int), 0, 0, 0⟩) ∧ Kd.R k35 35 w' w.heap.size (fun k_ => some k_ ≠ (v0_ : Value).ownBlock) v1_ l1 ∧ Kd.R k37 37 w' w.heap.size (fun _ => True) v2_ (sortRows (tabGo l0 l0.length [] 1).1) ∧ Below w.heap.size w w' := by
  obtain rfl : l2 = [] := List.eq_nil_of_length_eq_zero h2e
  obtain ⟨f0, f1, f2⟩ := fitB_iff.1 hf
  have hcp := copied_some f0 f1 f2
  go_enter Try.func11, Try.ntmps11
  have HR0 := Lib.hid hr0
  have HR1 := Lib.hid hr1
  have HR2 := Lib.hid hr2
  have HW0 := Lib.hid hw0
  have HT := Lib.hid hT
  have HCP := Lib.hid hcp
  have H0T := Lib.hid h0t
  have hmm := @run_makeMap Try.prog
  clear hr0 hr1 hr2 hw0 hT hcp h0t h2e
  go_wp2_with fail
  have hbA : Below w.heap.size w ((w.alloc (.cells #[.slice A0 l0.length c0, .slice A1 l1.length c1, .slice A2 0 c2] 30)).alloc (.cells #[.slice none 0 0, .slice none 0 0, .slice none 0 0] 30)) := ((Below.refl _ _).alloc (Nat.le_refl _) _).alloc (by simp) _
  refine (opt_copied.calls A0 c0 l0 A1 c1 l1 A2 c2 [] l0 l1 [] _ (Kd.C_below HR0.out hbA) hc0 (Kd.C_below HR1.out hbA) hc1 (Kd.C_below HR2.out hbA) hc2 HCP.out).mono ?_
  rintro e w1 ⟨v0, v1, v2, rfl, hV0, hV1, hV2, hB1⟩
  have b1 : w1.heap[w.heap.size]? = some (.cells #[.slice A0 l0.length c0, .slice A1 l1.length c1, .slice A2 0 c2] 30 (0, 0)) := blk_below (blk_alloc (blk_new _ _) _) hB1
  have b2 : w1.heap[w.heap.size + 1]? = some (.cells #[.slice none 0 0, .slice none 0 0, .slice none 0 0] 30 (0, 0)) := blk_below (by have := blk_new (w.alloc (.cells #[.slice A0 l0.length c0, .slice A1 l1.length c1, .slice A2 0 c2] 30)) (.cells #[.slice none 0 0, .slice none 0 0, .slice none 0 0] 30); simpa using this) hB1
  have hBw : Below w.heap.size w w1 := hbA.trans (hB1.mono (by simp; omega))
  have n02 := own_ne_of_types hV0 hV2
  have n12 := own_ne_of_types hV1 hV2
  have hV0' := Kd.R_bound hV0
  have hV1' := Kd.R_bound hV1
  have hV2' := Kd.R_bound hV2
  simp only [World.size_alloc] at hV0' hV1' hV2'
  have z1 := hB1.size
  simp only [World.size_alloc] at z1
  have z1a : w.heap.size < w1.heap.size := by omega
  have z1b : w.heap.size + 1 < w1.heap.size := by omega
  obtain ⟨a0, d0, e0⟩ := Kd.R_slice hV0'
  obtain ⟨a1, d1, e1⟩ := Kd.R_slice hV1'
  obtain ⟨a2, d2, e2⟩ := Kd.R_slice hV2'
  subst e0 e1 e2
  have B1 := Lib.hid b1
  have B2 := Lib.hid b2
  have HV0 := Lib.hid hV0'
  have HV1 := Lib.hid hV1'
  have HV2 := Lib.hid hV2'
  have HBw := Lib.hid hBw
  have k1a := blk_cell b1 0
  have k1b := blk_cell b1 1
  have k1c := blk_cell b1 2
  have f1a := blk_frozen b1 0
  have f1b := blk_frozen b1 1
  have f1c := blk_frozen b1 2
  simp only [List.getElem?_toArray, List.getElem?_cons_zero, List.getElem?_cons_succ] at k1a k1b k1c
  have N02 := Lib.hid n02
  have N12 := Lib.hid n12
  clear hbA hV0 hV1 hV2 hB1 b1 b2 hBw hV0' hV1' hV2' n02 n12
  obtain ⟨g, cells, hA, hbg, hgl, hok, hh, hx1, hx2⟩ := R_shape HV0.out (by omega) (by show 0 < 5; omega)
  subst hA
  obtain ⟨hy1, hy2, hC⟩ := Kd.R_reads' HV0.out
  obtain ⟨ad, ead, q0, _⟩ := at_T35 hC (1 : Int) (by omega) (by omega)
  injection ead with ead
  subst ead
  have er : rd_T35 l0 (1 : Int) = l0.getD 1 z35 := rfl
  rw [er] at q0
  simp only [Addr.add_lit, Nat.zero_add] at q0
  have q0' : w1.cell? ⟨g, 5, none⟩ = some (.int .i64 (l0.getD 1 z35).f0) := q0
  rw [H0T.out] at q0'
  have hgne : g ≠ w.heap.size := by have := hok.2.1; omega
  have hgne2 : g ≠ w.heap.size + 1 := by have := hok.2.1; omega
  have hgl' : g < w1.heap.size := hgl
  have t1 : ¬ (l0.length : Int) < 2 := by omega
  have t2 : (1 : Int) < (l0.length : Int) := by omega
  have HG := Lib.hid hok
  clear hx1 hx2 hy1 hy2 hC q0 er hh hbg hok hgl
  dsimp only
  go_upto_block 0 with fail
  have hT0 : ∃ ok0 ok1 : Nat → Prop, (∀ k, ok0 k → w.heap.size + 2 ≤ k ∧ k < w1.heap.size ∧ some k ≠ (Value.slice a1 l1.length d1).ownBlock) ∧ (∀ k, ok1 k → w.heap.size + 2 ≤ k ∧ k < w1.heap.size ∧ k ≠ g) ∧ TInv w w1 g d0 a1 d1 ok0 ok1 l0 l1 [] (.slice a2 0 d2) 0 ((((w1.setCell ⟨w.heap.size, 0, none⟩ (.slice (some ⟨g, 0, none⟩) l0.length d0)).setCell ⟨w.heap.size, 1, none⟩ (.slice a1 l1.length d1)).setCell ⟨w.heap.size, 2, none⟩ (.slice a2 0 d2)).alloc (.map #[] 0)) := by
    have hW : ∀ k, k ≠ w.heap.size → (((w1.setCell ⟨w.heap.size, 0, none⟩ (.slice (some ⟨g, 0, none⟩) l0.length d0)).setCell ⟨w.heap.size, 1, none⟩ (.slice a1 l1.length d1)).setCell ⟨w.heap.size, 2, none⟩ (.slice a2 0 d2)).heap[k]? = w1.heap[k]? := fun k h => by
      rw [Below.heap_setCell _ _ _ _ h, Below.heap_setCell _ _ _ _ h, Below.heap_setCell _ _ _ _ h]
    have hb0 : (((w1.setCell ⟨w.heap.size, 0, none⟩ (.slice (some ⟨g, 0, none⟩) l0.length d0)).setCell ⟨w.heap.size, 1, none⟩ (.slice a1 l1.length d1)).setCell ⟨w.heap.size, 2, none⟩ (.slice a2 0 d2)).heap[w.heap.size]? = some (.cells #[.slice (some ⟨g, 0, none⟩) l0.length d0, .slice a1 l1.length d1, .slice a2 0 d2] 30 (0, 0)) := blk_set (blk_set (blk_set B1.out 0 _) 1 _) 2 _
    have hbl : Below w.heap.size w (((w1.setCell ⟨w.heap.size, 0, none⟩ (.slice (some ⟨g, 0, none⟩) l0.length d0)).setCell ⟨w.heap.size, 1, none⟩ (.slice a1 l1.length d1)).setCell ⟨w.heap.size, 2, none⟩ (.slice a2 0 d2)) := ((HBw.out.setCell (p := ⟨w.heap.size, 0, none⟩) (Nat.le_refl _) _).setCell (p := ⟨w.heap.size, 1, none⟩) (Nat.le_refl _) _).setCell (p := ⟨w.heap.size, 2, none⟩) (Nat.le_refl _) _
    have hsz : (((w1.setCell ⟨w.heap.size, 0, none⟩ (.slice (some ⟨g, 0, none⟩) l0.length d0)).setCell ⟨w.heap.size, 1, none⟩ (.slice a1 l1.length d1)).setCell ⟨w.heap.size, 2, none⟩ (.slice a2 0 d2)).heap.size = w1.heap.size := by simp [World.setCell]
    have hV0 := HV0.out
    have hV1 := HV1.out
    have hV2 := HV2.out
    obtain ⟨okA, hkA, hV0⟩ : ∃ ok0 : Nat → Prop, (∀ k, ok0 k → w.heap.size + 2 ≤ k ∧ k < w1.heap.size ∧ some k ≠ (Value.slice a1 l1.length d1).ownBlock) ∧ Kd.R k35 35 w1 (w.heap.size + 2) ok0 (.slice (some ⟨g, 0, none⟩) l0.length d0) l0 := ⟨_, fun k hk => ⟨hk.2.1, hk.2.2.1, hk.1⟩, hV0⟩
    obtain ⟨okB, hkB, hV1⟩ : ∃ ok1 : Nat → Prop, (∀ k, ok1 k → w.heap.size + 2 ≤ k ∧ k < w1.heap.size ∧ k ≠ g) ∧ Kd.R k35 35 w1 (w.heap.size + 2) ok1 (.slice a1 l1.length d1) l1 := ⟨_, fun k hk => ⟨hk.2.1, hk.2.2.1, fun e => hk.1 (by rw [e]; rfl)⟩, hV1⟩
    refine ⟨okA, okB, hkA, hkB, ?_⟩
    generalize (((w1.setCell ⟨w.heap.size, 0, none⟩ (.slice (some ⟨g, 0, none⟩) l0.length d0)).setCell ⟨w.heap.size, 1, none⟩ (.slice a1 l1.length d1)).setCell ⟨w.heap.size, 2, none⟩ (.slice a2 0 d2)) = W at *
    have hm := SMap.made W
    rw [hsz] at hm
    refine ⟨hbl.alloc (by omega) _, by rw [World.size_alloc, hsz]; omega, blk_alloc hb0 _, blk_alloc ((hW _ (by omega)).trans B2.out) _, ?_, ?_, ?_, by have e : hasTag [] = fun _ => false := (by funext x; rfl); rw [e]; exact hm⟩
    · exact Kd.R_alloc (Kd.R_move hV0 (fun k hk => hW k (by have := (hkA k hk).1; omega))) _
    · exact Kd.R_alloc (Kd.R_move hV1 (fun k hk => hW k (by have := (hkB k hk).1; omega))) _
    · exact Kd.R_mono (Kd.R_alloc (Kd.R_move hV2 (fun k hk => hW k (by have := hk.2.1; omega))) _) (fun _ _ => trivial)
  obtain ⟨ok0, ok1, hk0, hk1, hT0⟩ := hT0
  have HT0 := Lib.hid hT0
  have HK0 := Lib.hid hk0
  have HK1 := Lib.hid hk1
  clear hT0 hk0 hk1
  go_cut [4] (fun v4 wc => ∃ (R : List S37) (a N : Nat) (v : Value), v4 = .int .i64 (a : Int) ∧ Hid (tabGo l0 l0.length [] 1 = (R, a)) ∧ Hid (1 ≤ a ∧ N ≤ l0.length ∧ R.length ≤ l0.length) ∧ Hid (TInv w w1 g d0 a1 d1 ok0 ok1 l0 l1 R v N wc) ∧ Hid (∀ x ∈ R, 0 ≤ x.f0 ∧ x.f0 ≤ 4611686018427387904) ∧ Hid (Once R))
  case first =>
    clear k1a k1b k1c f1a f1b f1c q0'
    go_wp2_with fail
    go_loopw [4] (fun s4 wl => ∃ (R : List S37) (a N f : Nat) (v : Value), s4 = .int .i64 (a : Int) ∧ 1 ≤ a ∧ a ≤ 9223372036854775807 ∧ N < a ∧ R.length < a ∧ (R.length ≤ l0.length) ∧ (N ≤ l0.length) ∧ Hid (a < l0.length → l0.length < a + f) ∧ Hid (tabGo l0 l0.length [] 1 = tabGo l0 f R a) ∧ Hid (TInv w w1 g d0 a1 d1 ok0 ok1 l0 l1 R v N wl) ∧ Hid (∀ x ∈ R, 0 ≤ x.f0 ∧ x.f0 ≤ 4611686018427387904) ∧ Hid (Once R)) (fun s4 _ => l0.length - (intOf s4).toNat)
    case atStart => exact ⟨[], 1, 0, l0.length, _, rfl, Nat.le_refl _, by omega, Nat.zero_lt_one, Nat.zero_lt_one, Nat.zero_le _, Nat.zero_le _, fun _ => by omega, rfl, HT0.out, fun x hx => absurd hx (List.not_mem_nil), List.Pairwise.nil⟩
    case round =>
      obtain ⟨R, a, N, f, v, rfl, ha1, ham, hNa, hRa, hRl, hNl, HF, HG2, HI, HTG, HPW⟩ := hrel
      by_cases hlt : a < l0.length
      · have hltz : (a : Int) < (l0.length : Int) := by omega
        have I := HI.out
        have hgl := blk_lt I.b1
        have kA := blk_cell I.b1 0
        have kC := blk_cell I.b1 2
        have fC := blk_frozen I.b1 2
        simp only [List.getElem?_toArray, List.getElem?_cons_zero, List.getElem?_cons_succ] at kA kC
        obtain ⟨hy1, hy2, hC⟩ := Kd.R_reads' I.r0
        obtain ⟨ad, ead, q0, q1, q2, q3, q4⟩ := at_T35 hC (a : Int) (by omega) (by omega)
        injection ead with ead
        subst ead
        have hxm : ∀ P : S35 → Prop, (∀ x ∈ l0, P x) → P (l0.getD a z35) := fun P hP => by
          rw [List.getD_eq_getElem?_getD, List.getElem?_eq_getElem hlt]; exact hP _ (List.getElem_mem hlt)
        have hwk : (Lit.int .i64 (l0.getD a z35).f1).wf = true := (hxm wfS HW0.out).1
        have HTx := Lib.hid (hxm _ HT.out)
        have er : rd_T35 l0 (a : Int) = l0.getD a z35 := rfl
        have HTG1 : Hid (∀ f', f = f' + 1 → tabGo l0 f R a = if (l0.getD a z35).f0 = 2 then if (l0.getD a z35).f2 ≤ (a : Int) then (addTag R (l0.getD a z35).f1 a, a) else tabGo l0 f' (addTag R (l0.getD a z35).f1 a) (l0.getD a z35).f2.toNat else (R, a)) := by
          intro f' e
          subst e
          rw [tabGo]
          by_cases h : (l0.getD a z35).f0 = 2
          · rw [if_pos ⟨hlt, h⟩, if_pos h]
          · rw [if_neg (fun q => h q.2), if_neg h]
        have hwf2 : wfI (l0.getD a z35).f2 := (hxm wfS HW0.out).2
        rw [er] at q0 q1 q2 q3 q4
        simp only [Int.toNat_natCast, Nat.zero_add, Addr.add_lit] at q0 q1 q2 q3 q4
        generalize l0.getD a z35 = x at q0 q1 q2 q3 q4 hwk HTx HTG1 hwf2
        have hgx := World.block_lt_of_cell? _ _ q0
        clear hxm er hy1 hy2 hC
        by_cases hx2 : x.f0 = 2
        · rw [hx2] at q0
          have HLK := Lib.hid ((I.alloc (.cells #[.int .i64 2, .int .i64 x.f1, .int .i64 x.f2, .int .i64 x.f3, .int .i64 x.f4] 35)).mp.look x.f1 hwk)
          have HI := Lib.hid I
          have HX2 := Lib.hid hx2
          clear I hx2
          obtain ⟨f', rfl⟩ : ∃ f', f = f' + 1 := ⟨f - 1, by have := HF.out hlt; omega⟩
          have htg := HTG1.out f' rfl
          rw [if_pos HX2.out] at htg
          have hxb := wf_in hwf2
          have hnew : (∀ y ∈ addTag R x.f1 a, 0 ≤ y.f0 ∧ y.f0 ≤ 4611686018427387904) ∧ Once (addTag R x.f1 a) := ⟨fun y hy => by
            unfold addTag at hy
            split at hy
            · exact HTG.out y hy
            · rcases List.mem_append.1 hy with hy | hy
              · exact HTG.out y hy
              · simp only [List.mem_singleton] at hy; subst hy; exact HTx.out HX2.out, once_add HPW.out _ _⟩
          have HNEW := Lib.hid hnew
          cases ht : hasTag R x.f1 with
          | true =>
            have hlk := HLK.out
            rw [ht] at hlk
            have hadd : addTag R x.f1 a = R := by unfold addTag; rw [if_pos ht]
            rw [hadd] at htg
            clear ht hadd
            by_cases hle : x.f2 ≤ (a : Int)
            · rw [if_pos hle] at htg
              have HTE := Lib.hid (HG2.out.trans htg)
              clear htg hnew
              go_wp2_with fail
              go_meet
              exact ⟨R, a, N, v, rfl, HTE.out, ⟨ha1, hNl, hRl⟩, (HI.out.alloc _).alloc _, HTG.out, HPW.out⟩
            · rw [if_neg hle] at htg
              have HTE := Lib.hid (HG2.out.trans htg)
              clear htg hnew
              have hle2 : (a : Int) < x.f2 := by omega
              clear hle
              go_wp2_with fail
              refine ⟨⟨R, x.f2.toNat, N, f', v, by rw [Int.toNat_of_nonneg (by omega)], by omega, by omega, by omega, by omega, hRl, hNl, fun _ => by have := HF.out hlt; omega, HTE.out, (HI.out.alloc _).alloc _, HTG.out, HPW.out⟩, by simp [intOf]; omega⟩
          | false =>
            have hlk := HLK.out
            rw [ht] at hlk
            have hadd : addTag R x.f1 a = R ++ [⟨x.f1, (a : Int) + 1⟩] := by unfold addTag; rw [if_neg (by simp [ht])]
            have hmap : (fun y => y == x.f1 || hasTag R y) = hasTag (addTag R x.f1 a) := by funext y; rw [hasTag_add]
            obtain ⟨Av, cv, ev⟩ := Kd.R_slice HI.out.rr
            subst ev
            have I2 := ((HI.out.alloc (.cells #[.int .i64 2, .int .i64 x.f1, .int .i64 x.f2, .int .i64 x.f3, .int .i64 x.f4] 35)).alloc (.cells #[] 49))
            have HO2 := Lib.hid I2.rr
            have hs2 := I2.size
            simp only [World.size_alloc] at hs2
            have HI2 := Lib.hid I2
            have HADD := Lib.hid hadd
            have HMAP := Lib.hid hmap
            have HHT := Lib.hid ht
            have hrb : (R.length + 1) * 16 ≤ 140737488355328 := by omega
            clear hadd hmap I2 ht hnew
            by_cases hle : x.f2 ≤ (a : Int)
            · rw [if_pos hle] at htg
              have HTE := Lib.hid (HG2.out.trans htg)
              clear htg
              have hnb : ∀ k, (Value.slice Av R.length cv).ownBlock = some k → w.heap.size + 2 ≤ k ∧ k < wr.heap.size ∧ k ≠ w1.heap.size := fun k e => by
                have h1 := (Kd.R_bound HI.out.rr).1 k e
                refine ⟨h1.2.1, h1.2.2.1, fun e2 => ?_⟩
                obtain ⟨es, c, hmm3⟩ := HI.out.mp.isMap
                obtain ⟨q, _, cs, hc⟩ := h1.2.2.2
                rw [e2, hmm3] at hc
                cases hc
              have HNB := Lib.hid hnb
              clear hnb
              have hwz : wr.heap.size ≠ w.heap.size := by omega
              have hs1 := HI.out.size
              go_wp2_with (first | ((with_reducible refine gate_builtin (b := .append) (xs := #[.tmp 59, .tmp 65]) rfl ?_); at_builtin; go_loud (refine Kd.R_append k37 (w.heap.size + 2) rfl (.tmp 59) (.tmp 65) 28 37 (.agg #[(.int .i64 0), (.int .i64 0)]) 16 rfl Try.underlying28 info37 rfl (by decide) (by omega) (.slice Av R.length cv) R ⟨x.f1, (a : Int) + 1⟩ [.int .i64 x.f1, .int .i64 ((a : Int) + 1)] (fun _ => True) (fun _ => False) rfl (show Value.slice (some ⟨wr.heap.size + 1 + 1, 0, none⟩) 1 1 = _ by simp) (k37_mkM _ _ _ ⟨x.f1, (a : Int) + 1⟩) (fun _ hk => hk.elim) (fun _ _ => trivial) HO2.out (Below.refl _ _) (by simp; omega) hrb ?_); intro v3 w3 ho3 hb3 hg3 hat3; obtain ⟨A3, c3, e3⟩ := Kd.R_slice ho3; rw [List.length_append, List.length_singleton] at e3; subst e3; have bX := blk_grown (blk_alloc (blk_new wr (.cells #[.int .i64 2, .int .i64 x.f1, .int .i64 x.f2, .int .i64 x.f3, .int .i64 x.f4] 35)) (.cells #[] 49)) hg3 (fun e_ => by have := (HNB.out _ e_.symm).2.1; omega); have bS := blk_grown HI2.out.b1 hg3 (fun e_ => by have := (HNB.out _ e_.symm).1; omega); have y1 := blk_cell bX 1; have y2 := blk_cell bX 2; have s2 := blk_cell bS 2; have s3 := blk_frozen bS 2; simp only [List.getElem?_toArray, List.getElem?_cons_zero, List.getElem?_cons_succ] at y1 y2 s2; have HM3 := Lib.hid (HI2.out.mp.same (W' := w3.setCell ⟨w.heap.size, 2, none⟩ (.slice A3 (R.length + 1) c3)) ((Below.heap_setCell _ _ _ _ (show w1.heap.size ≠ w.heap.size by omega)).trans (hg3.block _ HI2.out.mp.lt (fun e_ => (HNB.out _ e_.symm).2.2 rfl)))); have hz3 := hg3.size; simp only [World.size_alloc] at hz3; have HO3 := Lib.hid ho3; have HB3 := Lib.hid hb3; have HG3 := Lib.hid hg3; have HBX := Lib.hid bX; clear ho3 hb3 hg3 hat3 bX bS; obtain ⟨D, hown, hisM, hfD⟩ := HM3.out; have HPUT := Lib.hid (fun W' => SMap.put_law (W' := W') (b := w1.heap.size) (N := N) x.f1 hisM hfD); clear hisM hfD) | (at_mapUpdate; go_loud (refine wpList_mapUpdate_own _ rfl _ _ _ 48 rfl 3 49 law3 Try.underlying48 _ w1.heap.size N D rfl hown (by unfold maxLen; omega) _ _ (.int .i64 x.f1) rfl rfl (keyOf_int_mk Try.underlying3 hwk) (.agg []) [] unitElem_mk ?_); intro w5 hown5 hg5; have HM5 := Lib.hid (HPUT.out _ hown5); have HG5 := Lib.hid hg5; have bX5 := blk_grown ((Below.heap_setCell _ _ _ _ hwz).trans HBX.out) hg5 (fun e_ => by injection e_; omega); have z2 := blk_cell bX5 2; simp only [List.getElem?_toArray, List.getElem?_cons_zero, List.getElem?_cons_succ] at z2; clear hown5 hg5 bX5))
              go_meet
              exact ⟨_, a, N + 1, _, rfl, HTE.out, ⟨ha1, by omega, by rw [HADD.out, List.length_append, List.length_singleton]; omega⟩, HI2.out.push (fun k hk => (HK0.out k hk).2.1) (fun k hk => (HK1.out k hk).2.1) z1 (by rw [HADD.out]; exact HO3.out) HB3.out HG3.out HG5.out (by rw [← HMAP.out]; exact HM5.out) (by obtain ⟨es, c, h⟩ := HM3.out.isMap; exact ⟨es, c, (Below.heap_setCell _ _ _ _ (show w1.heap.size ≠ w.heap.size by omega)).symm.trans h⟩), HNEW.out⟩
            · rw [if_neg hle] at htg
              have HTE := Lib.hid (HG2.out.trans htg)
              clear htg
              have hle2 : (a : Int) < x.f2 := by omega
              clear hle
              have hnb : ∀ k, (Value.slice Av R.length cv).ownBlock = some k → w.heap.size + 2 ≤ k ∧ k < wr.heap.size ∧ k ≠ w1.heap.size := fun k e => by
                have h1 := (Kd.R_bound HI.out.rr).1 k e
                refine ⟨h1.2.1, h1.2.2.1, fun e2 => ?_⟩
                obtain ⟨es, c, hmm3⟩ := HI.out.mp.isMap
                obtain ⟨q, _, cs, hc⟩ := h1.2.2.2
                rw [e2, hmm3] at hc
                cases hc
              have HNB := Lib.hid hnb
              clear hnb
              have hwz : wr.heap.size ≠ w.heap.size := by omega
              have hs1 := HI.out.size
              go_wp2_with (first | ((with_reducible refine gate_builtin (b := .append) (xs := #[.tmp 59, .tmp 65]) rfl ?_); at_builtin; go_loud (refine Kd.R_append k37 (w.heap.size + 2) rfl (.tmp 59) (.tmp 65) 28 37 (.agg #[(.int .i64 0), (.int .i64 0)]) 16 rfl Try.underlying28 info37 rfl (by decide) (by omega) (.slice Av R.length cv) R ⟨x.f1, (a : Int) + 1⟩ [.int .i64 x.f1, .int .i64 ((a : Int) + 1)] (fun _ => True) (fun _ => False) rfl (show Value.slice (some ⟨wr.heap.size + 1 + 1, 0, none⟩) 1 1 = _ by simp) (k37_mkM _ _ _ ⟨x.f1, (a : Int) + 1⟩) (fun _ hk => hk.elim) (fun _ _ => trivial) HO2.out (Below.refl _ _) (by simp; omega) hrb ?_); intro v3 w3 ho3 hb3 hg3 hat3; obtain ⟨A3, c3, e3⟩ := Kd.R_slice ho3; rw [List.length_append, List.length_singleton] at e3; subst e3; have bX := blk_grown (blk_alloc (blk_new wr (.cells #[.int .i64 2, .int .i64 x.f1, .int .i64 x.f2, .int .i64 x.f3, .int .i64 x.f4] 35)) (.cells #[] 49)) hg3 (fun e_ => by have := (HNB.out _ e_.symm).2.1; omega); have bS := blk_grown HI2.out.b1 hg3 (fun e_ => by have := (HNB.out _ e_.symm).1; omega); have y1 := blk_cell bX 1; have y2 := blk_cell bX 2; have s2 := blk_cell bS 2; have s3 := blk_frozen bS 2; simp only [List.getElem?_toArray, List.getElem?_cons_zero, List.getElem?_cons_succ] at y1 y2 s2; have HM3 := Lib.hid (HI2.out.mp.same (W' := w3.setCell ⟨w.heap.size, 2, none⟩ (.slice A3 (R.length + 1) c3)) ((Below.heap_setCell _ _ _ _ (show w1.heap.size ≠ w.heap.size by omega)).trans (hg3.block _ HI2.out.mp.lt (fun e_ => (HNB.out _ e_.symm).2.2 rfl)))); have hz3 := hg3.size; simp only [World.size_alloc] at hz3; have HO3 := Lib.hid ho3; have HB3 := Lib.hid hb3; have HG3 := Lib.hid hg3; have HBX := Lib.hid bX; clear ho3 hb3 hg3 hat3 bX bS; obtain ⟨D, hown, hisM, hfD⟩ := HM3.out; have HPUT := Lib.hid (fun W' => SMap.put_law (W' := W') (b := w1.heap.size) (N := N) x.f1 hisM hfD); clear hisM hfD) | (at_mapUpdate; go_loud (refine wpList_mapUpdate_own _ rfl _ _ _ 48 rfl 3 49 law3 Try.underlying48 _ w1.heap.size N D rfl hown (by unfold maxLen; omega) _ _ (.int .i64 x.f1) rfl rfl (keyOf_int_mk Try.underlying3 hwk) (.agg []) [] unitElem_mk ?_); intro w5 hown5 hg5; have HM5 := Lib.hid (HPUT.out _ hown5); have HG5 := Lib.hid hg5; have bX5 := blk_grown ((Below.heap_setCell _ _ _ _ hwz).trans HBX.out) hg5 (fun e_ => by injection e_; omega); have z2 := blk_cell bX5 2; simp only [List.getElem?_toArray, List.getElem?_cons_zero, List.getElem?_cons_succ] at z2; clear hown5 hg5 bX5))
              refine ⟨⟨_, x.f2.toNat, N + 1, f', _, by rw [Int.toNat_of_nonneg (by omega)], by omega, by omega, by omega, by rw [HADD.out, List.length_append, List.length_singleton]; omega, by rw [HADD.out, List.length_append, List.length_singleton]; omega, by omega, fun _ => by have := HF.out hlt; omega, HTE.out, HI2.out.push (fun k hk => (HK0.out k hk).2.1) (fun k hk => (HK1.out k hk).2.1) z1 (by rw [HADD.out]; exact HO3.out) HB3.out HG3.out HG5.out (by rw [← HMAP.out]; exact HM5.out) (by obtain ⟨es, c, h⟩ := HM3.out.isMap; exact ⟨es, c, (Below.heap_setCell _ _ _ _ (show w1.heap.size ≠ w.heap.size by omega)).symm.trans h⟩), HNEW.out⟩, by simp [intOf]; omega⟩
        · have hb : (x.f0 == 2) = false := beq_eq_false_iff_ne.mpr hx2
          obtain ⟨f', rfl⟩ : ∃ f', f = f' + 1 := ⟨f - 1, by have := HF.out hlt; omega⟩
          have htg := HTG1.out f' rfl
          rw [if_neg hx2] at htg
          have HTE := Lib.hid (HG2.out.trans htg)
          have HI := Lib.hid I
          clear htg hx2 I
          go_wp2_with fail
          go_meet
          exact ⟨R, a, N, v, rfl, HTE.out, ⟨ha1, hNl, hRl⟩, HI.out, HTG.out, HPW.out⟩
      · have hltz : ¬ (a : Int) < (l0.length : Int) := by omega
        have I := HI.out
        have hgl := blk_lt I.b1
        have kA := blk_cell I.b1 0
        simp only [List.getElem?_toArray, List.getElem?_cons_zero, List.getElem?_cons_succ] at kA
        have htg : tabGo l0 f R a = (R, a) := by
          cases f with
          | zero => rfl
          | succ f => rw [tabGo, if_neg (fun q => hlt q.1)]
        have HTE := Lib.hid (HG2.out.trans htg)
        clear htg I
        go_wp2_with fail
        go_meet
        exact ⟨R, a, N, v, rfl, HTE.out, ⟨ha1, hNl, hRl⟩, HI.out, HTG.out, HPW.out⟩
  case rest =>
    obtain ⟨R, a, N, v, rfl, HTE, HB, HI, HTG, HPW⟩ := hcut
    have hR0 : 0 < R.length := by
      have h1 : (tabGo l0 l0.length [] 1).1 ≠ [] := by
        obtain ⟨n, hn⟩ : ∃ n, l0.length = n + 1 := ⟨l0.length - 1, by omega⟩
        conv => lhs; rw [hn]
        rw [tabGo, if_pos ⟨by omega, H0T.out⟩]
        have hadd : ∀ t, addTag [] t 1 ≠ [] := fun t => by unfold addTag; split <;> simp_all [hasTag]
        split
        · exact hadd _
        · exact tabGo_ne (hadd _)
      rw [HTE.out] at h1
      exact List.length_pos_iff.2 h1
    obtain ⟨Av, cv, ev⟩ := Kd.R_slice HI.out.rr
    subst ev
    have I := HI.out
    have hgl := blk_lt I.b1
    have kA := blk_cell I.b1 0
    have kB := blk_cell I.b1 1
    have kC := blk_cell I.b1 2
    simp only [List.getElem?_toArray, List.getElem?_cons_zero, List.getElem?_cons_succ] at kA kB kC
    have HI := Lib.hid I
    clear I k1a k1b k1c f1a f1b f1c q0'
    go_wp2_with fail
    refine (sort_calls HI.out.rr hR0 (by have := HB.out.2.2; omega) HTG.out (once_inj HPW.out)).mono ?_
    rintro e w3 ⟨rfl, hs1, hs2, hs3⟩
    dsimp only
    have hown : ∀ k, (Value.slice Av R.length cv).ownBlock = some k → w.heap.size + 2 ≤ k ∧ ∃ q, q ∈ 37 :: k37.E ∧ ∃ cells, wc.heap[k]? = some (.cells cells q (0, 0)) := fun k e => by
      have h1 := (Kd.R_bound HI.out.rr).1 k e
      exact ⟨h1.2.1, h1.2.2.2⟩
    have zc := HI.out.size
    have z3 := hs2.size
    have c1' := (hs3 w.heap.size (by omega) (fun e => by have := (hown _ e.symm).1; omega)).trans HI.out.b1
    have c2' := (hs3 (w.heap.size + 1) (by omega) (fun e => by have := (hown _ e.symm).1; omega)).trans HI.out.b2
    have hV0c := Kd.R_mono (Kd.R_move (Kd.R_bound HI.out.r0) (w1 := w3) (fun k hk => hs3 k hk.2.2.1 (fun e => typed_ne hk.2.2.2 (hown _ e.symm).2))) (fun _ hk => hk.1)
    have hV1c := Kd.R_mono (Kd.R_move (Kd.R_bound HI.out.r1) (w1 := w3) (fun k hk => hs3 k hk.2.2.1 (fun e => typed_ne hk.2.2.2 (hown _ e.symm).2))) (fun _ hk => hk.1)
    have hBc : Below w.heap.size w w3 := HI.out.below.trans (hs2.mono (by omega))
    obtain ⟨ce, hce1, _, hce2, hce3⟩ := Kd.R_elem hV0c z35 (1 : Int) (by omega) (by omega)
    have hdrop : ce.take 0 ++ [Value.int .i64 3, .int .i64 (a : Int), .int .i64 0, .int .i64 0, .int .i64 0] ++ ce.drop (0 + 5) = [.int .i64 3, .int .i64 (a : Int), .int .i64 0, .int .i64 0, .int .i64 0] := by
      rw [List.drop_eq_nil_of_le (by rw [hce1]; show 5 ≤ 0 + 5; omega)]; simp
    have HDR := Lib.hid hdrop
    have HCE := Lib.hid hce2
    have HCL := Lib.hid hce1
    have HS1 := Lib.hid hs1
    have HV0c := Lib.hid hV0c
    have HV1c := Lib.hid hV1c
    have HBc := Lib.hid hBc
    have C1 := Lib.hid c1'
    have C2 := Lib.hid c2'
    have k3a := blk_cell c1' 0
    have k3b := blk_cell c1' 1
    have k3c := blk_cell c1' 2
    simp only [List.getElem?_toArray, List.getElem?_cons_zero, List.getElem?_cons_succ] at k3a k3b k3c
    have z3a : w.heap.size + 1 < w3.heap.size := by omega
    have hab := HB.out
    clear hs1 hs2 hs3 hown c1' c2' hV0c hV1c hBc hdrop hce1 hce2 hce3 kA kB kC
    go_wp2_with (first | ((with_reducible refine gate_store (t := 35) (p := 85) rfl ?_); go_loud (refine Kd.R_store k35 (w0 := w) w.heap.size rfl rfl 35 (.tmp 85) (.tmp 84) rfl 35 (1 : Int) 0 l0 ⟨3, (a : Int), 0, 0, 0⟩ (.agg #[.int .i64 3, .int .i64 (a : Int), .int .i64 0, .int .i64 0, .int .i64 0]) [.int .i64 3, .int .i64 (a : Int), .int .i64 0, .int .i64 0, .int .i64 0] ce ok0 (fun _ => False) rfl (by rfl) rfl rfl (by kernel_rfl) (ones5 ⟨3, (a : Int), 0, 0, 0⟩) (Kd.R_lower HV0c.out (by omega)) (by omega) (by omega) HCL.out HCE.out (by show 0 + 5 ≤ 5; omega) (by rw [show ([Value.int .i64 3, .int .i64 (a : Int), .int .i64 0, .int .i64 0, .int .i64 0] : List Value).length = 5 from rfl, HDR.out]; exact k35_mkM _ _ _ ⟨3, (a : Int), 0, 0, 0⟩) (fun _ hk => hk.elim) HBc.out ?_); go_loud (intro w4 hs4 hb4 hg4; have HS4 := Lib.hid hs4; have HB4 := Lib.hid hb4; have HG4 := Lib.hid hg4; have hz4 := hg4.size; have b4 := blk_grown C1.out hg4 (fun e_ => by injection e_; omega); have y0 := blk_cell b4 0; have y1 := blk_cell b4 1; have y2 := blk_cell b4 2; simp only [List.getElem?_toArray, List.getElem?_cons_zero, List.getElem?_cons_succ] at y0 y1 y2; clear hs4 hb4 hg4 b4)))
    have hsl : (l0.set 1 (⟨3, (a : Int), 0, 0, 0⟩ : S35)).length = l0.length := List.length_set
    have hrl : (sortRows R).length = R.length := sortRows_len R
    have c4 := blk_grown C1.out HG4.out (fun e_ => by injection e_; omega)
    have c4' := blk_grown C2.out HG4.out (fun e_ => by injection e_; omega)
    obtain ⟨n0, m0, hC0⟩ := Kd.R_reads' HS4.out
    obtain ⟨n1, m1, hC1⟩ := Kd.R_reads' (Kd.R_move HV1c.out (w1 := w4) (fun k hk => HG4.out.block k (by have := (HK1.out k hk).2.1; omega) (fun e => by injection e with e; exact (HK1.out k hk).2.2 e)))
    obtain ⟨n2, m2, hC2⟩ := Kd.R_reads' (Kd.R_move (Kd.R_bound HS1.out) (w1 := w4) (fun k hk => HG4.out.block k hk.2.2.1 (fun e => by
      injection e with e
      subst e
      obtain ⟨_, _, _, q, hq, cs, hc⟩ := (Kd.R_bound HV0c.out).1 k rfl
      exact typed_ne ⟨q, hq, cs, hc⟩ hk.2.2.2)))
    have hcall := opt_copied.calls (some ⟨g, 0, none⟩) d0 (l0.set 1 ⟨3, (a : Int), 0, 0, 0⟩) a1 d1 l1 Av cv (sortRows R) (l0.set 1 ⟨3, (a : Int), 0, 0, 0⟩) l1 (sortRows R) w4 hC0 (by rw [hsl]; exact m0) hC1 m1 hC2 (by rw [hrl]; exact m2) (copied_some (by rw [hsl]; exact f0) f1 (by rw [hrl]; have := HB.out.2.2; omega))
    rw [hsl, hrl] at hcall
    refine hcall.mono ?_
    clear hcall hC0 hC1 hC2 m0 m1 m2 n0 n1 n2
    rintro e w5 ⟨v0, v1, v2, rfl, hD0, hD1, hD2, hb5⟩
    have z5 := hb5.size
    have d5 := blk_below c4 hb5
    have d5' := blk_below c4' hb5
    have hB5 : Below w.heap.size w w5 := HB4.out.trans (hb5.mono (by omega))
    obtain ⟨p0, q0, e0⟩ := Kd.R_slice hD0
    obtain ⟨p1, q1, e1⟩ := Kd.R_slice hD1
    obtain ⟨p2, q2, e2⟩ := Kd.R_slice hD2
    rw [hsl] at e0
    rw [hrl] at e2
    subst e0 e1 e2
    have HD0 := Lib.hid (Kd.R_bound hD0)
    have HD1 := Lib.hid (Kd.R_bound hD1)
    have HD2 := Lib.hid (Kd.R_bound hD2)
    have HB5 := Lib.hid hB5
    have C5' := Lib.hid d5'
    have HFIN := Lib.hid HTE.out
    have r5a := blk_cell d5' 0
    have r5b := blk_cell d5' 1
    have r5c := blk_cell d5' 2
    have g5a := blk_frozen d5' 0
    have g5b := blk_frozen d5' 1
    have g5c := blk_frozen d5' 2
    simp only [List.getElem?_toArray, List.getElem?_cons_zero, List.getElem?_cons_succ] at r5a r5b r5c
    have z5b : w.heap.size + 1 < w5.heap.size := by omega
    clear hD0 hD1 hD2 hb5 d5 d5' hB5 c4 c4' y0 y1 y2 k3a k3b k3c hsl hrl
    dsimp only
    go_wp2_with fail
    have hZ : ∀ k, k ≠ w.heap.size + 1 → (((w5.setCell ⟨w.heap.size + 1, 0, none⟩ (.slice p0 l0.length q0)).setCell ⟨w.heap.size + 1, 1, none⟩ (.slice p1 l1.length q1)).setCell ⟨w.heap.size + 1, 2, none⟩ (.slice p2 R.length q2)).heap[k]? = w5.heap[k]? := fun k h2 => by
      rw [Below.heap_setCell _ _ _ _ h2, Below.heap_setCell _ _ _ _ h2, Below.heap_setCell _ _ _ _ h2]
    refine bodyPost_ret (results_cell_row rfl _ _ (w.heap.size + 1) 30 #[.slice p0 l0.length q0, .slice p1 l1.length q1, .slice p2 R.length q2] (0, 0) _ rfl (blk_set (blk_set (blk_set C5'.out 0 _) 1 _) 2 _) Try.underlying30 rfl (by kernel_rfl)) rfl ?_
    rw [HFIN.out]
    refine ⟨_, _, _, rfl, ?_, ?_, ?_, ?_⟩
    · exact Kd.R_lower (Kd.R_mono (Kd.R_move HD0.out (fun k hk => hZ k (by have := hk.2.1; omega))) (fun k hk => hk.1)) (by omega)
    · exact Kd.R_lower (Kd.R_mono (Kd.R_move HD1.out (fun k hk => hZ k (by have := hk.2.1; omega))) (fun k hk => hk.1)) (by omega)
    · exact Kd.R_lower (Kd.R_mono (Kd.R_move HD2.out (fun k hk => hZ k (by have := hk.2.1; omega))) (fun _ _ => trivial)) (by omega)
    · exact (((HB5.out.setCell (p := ⟨w.heap.size + 1, 0, none⟩) (by show w.heap.size ≤ w.heap.size + 1; omega) _).setCell (p := ⟨w.heap.size + 1, 1, none⟩) (by show w.heap.size ≤ w.heap.size + 1; omega) _).setCell (p := ⟨w.heap.size + 1, 2, none⟩) (by show w.heap.size ≤ w.heap.size + 1; omega) _)
end Go.Proofs.Ytedghbjmhcgilaa.A
end
section
namespace Go.Proofs.Ytedghbjmhcgilaa.A
open Go.RowKit Go.Shelf Go.Maps Go.Proofs.YtedghbjmhcgilaaW.PrintWords Go.Proofs.YtedghbjmhcgilaaW.PrintLast Go.Proofs.YtedghbjmhcgilaaW.PrintMore
open Go.Proofs.Ytedghbjmhcgilaa.POpt
set_option linter.unusedVariables false
set_option linter.unusedSimpArgs false
def wfIB (x : Int) : Bool := decide (-9223372036854775808 ≤ x) && decide (x ≤ 9223372036854775807)
theorem wfIB_iff {x : Int} : wfIB x = true ↔ -9223372036854775808 ≤ x ∧ x ≤ 9223372036854775807 := by unfold wfIB; simp
theorem wfI_of {x : Int} (h : wfIB x = true) : wfI x := wf64 (wfIB_iff.1 h)
def okB (l0 l1 : List S35) (l2 : List S37) : Bool := fitB l0 l1 l2 && (l0.all (fun x => wfIB x.f1 && wfIB x.f2) && (l1.all (fun x => wfIB x.f1 && wfIB x.f2) && l2.all (fun x => wfIB x.f1)))
theorem okB_iff {l0 l1 : List S35} {l2 : List S37} : okB l0 l1 l2 = true ↔ fitB l0 l1 l2 = true ∧ (∀ x ∈ l0, wfIB x.f1 = true ∧ wfIB x.f2 = true) ∧ (∀ x ∈ l1, wfIB x.f1 = true ∧ wfIB x.f2 = true) ∧ (∀ x ∈ l2, wfIB x.f1 = true) := by
  unfold okB
  simp [List.all_eq_true]
theorem okB_wf {l0 l1 : List S35} {l2 : List S37} (h : okB l0 l1 l2 = true) : fitB l0 l1 l2 = true ∧ (∀ x ∈ l0, wfS x) ∧ (∀ x ∈ l1, wfS x) ∧ (∀ x ∈ l2, wfI x.f1) := by
  obtain ⟨h1, h2, h3, h4⟩ := okB_iff.1 h
  exact ⟨h1, fun x hx => ⟨wfI_of (h2 x hx).1, wfI_of (h2 x hx).2⟩, fun x hx => ⟨wfI_of (h3 x hx).1, wfI_of (h3 x hx).2⟩, fun x hx => wfI_of (h4 x hx)⟩
def tagB (l0 : List S35) : Bool := l0.all (fun x => !(x.f0 == 2) || (decide (0 ≤ x.f1) && decide (x.f1 ≤ 4611686018427387904)))
theorem tagB_iff {l0 : List S35} : tagB l0 = true ↔ ∀ x ∈ l0, x.f0 = 2 → 0 ≤ x.f1 ∧ x.f1 ≤ 4611686018427387904 := by
  unfold tagB
  rw [List.all_eq_true]
  constructor
  · intro h x hx e
    have := h x hx
    simpa [e] using this
  · intro h x hx
    by_cases e : x.f0 = 2
    · simpa [e] using h x hx e
    · simp [e]
def TablesF (l0 l1 : List S35) (l2 : List S37) : Option (List S35 × List S35 × List S37) := if okB l0 l1 l2 = true then (if tagB l0 = true then some ((tabP l0 l2).1, l1, (tabP l0 l2).2) else none) else none
theorem TablesF_calls (A0 : Option Addr) (c0 : Nat) (l0 : List S35) (A1 : Option Addr) (c1 : Nat) (l1 : List S35) (A2 : Option Addr) (c2 : Nat) (l2 : List S37) (r1 : List S35) (r2 : List S35) (r3 : List S37) (w : World)
    (hr0 : Kd.C k35 w A0 l0.length l0) (hc0 : l0.length ≤ c0) (hr1 : Kd.C k35 w A1 l1.length l1) (hc1 : l1.length ≤ c1) (hr2 : Kd.C k37 w A2 l2.length l2) (hc2 : l2.length ≤ c2) (h : TablesF l0 l1 l2 = some (r1, r2, r3)) :
    Calls Try.prog 11 #[.agg #[.slice A0 l0.length c0, .slice A1 l1.length c1, .slice A2 l2.length c2]] w fun e w' => ∃ v0_ v1_ v2_ : Value, e = .returned (.agg #[v0_, v1_, v2_]) ∧ Kd.R k35 35 w' w.heap.size (fun k_ => some k_ ≠ (v1_ : Value).ownBlock) v0_ r1 ∧ Kd.R k35 35 w' w.heap.size (fun k_ => some k_ ≠ (v0_ : Value).ownBlock) v1_ r2 ∧ Kd.R k37 37 w' w.heap.size (fun _ => True) v2_ r3 ∧ Below w.heap.size w w' := by
  unfold TablesF at h
  split at h
  case isFalse => cases h
  rename_i hok
  split at h
  case isFalse => cases h
  rename_i htg
  obtain ⟨hf, hw0, hw1, hw2⟩ := okB_wf hok
  injection h with h
  injection h with h1 h
  injection h with h2 h3
  subst h1 h2 h3
  by_cases hs : 0 < l2.length ∨ l0.length < 2 ∨ (at5 l0 1).f0 ≠ 2
  · have e : tabP l0 l2 = (l0, l2) := by unfold tabP; rw [if_pos hs]
    rw [e]
    refine Tables_stay A0 c0 l0 A1 c1 l1 A2 c2 l2 w hr0 hc0 hr1 hc1 hr2 hc2 hf hw0 hw1 hw2 ?_
    by_cases h2 : 0 < l2.length
    · exact .inl h2
    · have h2' : l2.length = 0 := by omega
      rcases hs with hs | hs | hs
      · exact absurd hs h2
      · exact .inr (.inl ⟨h2', hs⟩)
      · by_cases h0 : l0.length < 2
        · exact .inr (.inl ⟨h2', h0⟩)
        · refine .inr (.inr ⟨h2', by omega, ?_⟩)
          rw [at5_lt (by omega)] at hs
          exact hs
  · have h2 : l2.length = 0 := by omega
    have h0 : 2 ≤ l0.length := by omega
    have ht : (l0.getD 1 z35).f0 = 2 := by
      false_or_by_contra
      rename_i hn
      exact hs (.inr (.inr hn))
    have e : tabP l0 l2 = (l0.set 1 ⟨3, ((tabGo l0 l0.length [] 1).2 : Int), 0, 0, 0⟩, sortRows (tabGo l0 l0.length [] 1).1) := by unfold tabP; rw [if_neg hs]
    rw [e]
    exact Tables_chain A0 c0 l0 A1 c1 l1 A2 c2 l2 w hr0 hc0 hr1 hc1 hr2 hc2 hf hw0 (tagB_iff.1 htg) h2 h0 ht
end Go.Proofs.Ytedghbjmhcgilaa.A
end
section
namespace Go.Proofs.Ytedghbjmhcgilaa.A
open Go.RowKit Go.Shelf Go.Maps Go.Proofs.YtedghbjmhcgilaaW.PrintWords Go.Proofs.YtedghbjmhcgilaaW.PrintLast Go.Proofs.YtedghbjmhcgilaaW.PrintMore
open Go.Proofs.Ytedghbjmhcgilaa.POpt
attribute [local go_sem] Oper.semAt_some
set_option linter.unusedVariables false
set_option linter.unusedSimpArgs false
set_option maxRecDepth 100000 in
set_option maxHeartbeats 2000000 in
theorem Trim_empty (A0 : Option Addr) (c0 : Nat) (l0 : List S35) (A1 : Option Addr) (c1 : Nat) (l1 : List S35) (A2 : Option Addr) (c2 : Nat) (l2 : List S37) (w : World)
    (hr0 : Kd.C k35 w A0 l0.length l0) (hc0 : l0.length ≤ c0) (hr1 : Kd.C k35 w A1 l1.length l1) (hc1 : l1.length ≤ c1) (hr2 : Kd.C k37 w A2 l2.length l2) (hc2 : l2.length ≤ c2)
    (hf : fitB l0 l1 l2 = true) (hw0 : ∀ x ∈ l0, wfS x) (hw1 : ∀ x ∈ l1, wfS x) (hw2 : ∀ x ∈ l2, wfI x.f1) (he0 : l0 = []) (he1 : l1 = []) :
    Calls Try.prog 17 #[.agg #[.slice A0 l0.length c0, .slice A1 l1.length c1, .slice A2 l2.length c2]] w fun e w' => ∃ v0_ v1_ v2_ : Value, e = .returned (.agg #[v0_, v1_, v2_]) ∧ Kd.R k35 35 w' w.heap.size (fun k_ => some k_ ≠ (v1_ : Value).ownBlock) v0_ l0 ∧ Kd.R k35 35 w' w.heap.size (fun k_ => some k_ ≠ (v0_ : Value).ownBlock) v1_ l1 ∧ Kd.R k37 37 w' w.heap.size (fun _ => True) v2_ l2 ∧ Below w.heap.size w w' := by
  have HE0 := Lib.hid he0
  have HE1 := Lib.hid he1
  clear he0 he1
  obtain ⟨f0, f1, f2⟩ := fitB_iff.1 hf
  have hcp := copied_some f0 f1 f2
  go_enter Try.func17, Try.ntmps17
  have HR0 := Lib.hid hr0
  have HR1 := Lib.hid hr1
  have HR2 := Lib.hid hr2
  have HW0 := Lib.hid hw0
  have HW1 := Lib.hid hw1
  have HW2 := Lib.hid hw2
  have HCP := Lib.hid hcp
  clear hr0 hr1 hr2 hw0 hw1 hw2 hcp
  go_wp2_with fail
  have hbA : Below w.heap.size w ((w.alloc (.cells #[.slice A0 l0.length c0, .slice A1 l1.length c1, .slice A2 l2.length c2] 30)).alloc (.cells #[.slice none 0 0, .slice none 0 0, .slice none 0 0] 30)) := ((Below.refl _ _).alloc (Nat.le_refl _) _).alloc (by simp) _
  refine (opt_copied.calls A0 c0 l0 A1 c1 l1 A2 c2 l2 l0 l1 l2 _ (Kd.C_below HR0.out hbA) hc0 (Kd.C_below HR1.out hbA) hc1 (Kd.C_below HR2.out hbA) hc2 HCP.out).mono ?_
  rintro e w1 ⟨v0, v1, v2, rfl, hV0, hV1, hV2, hB1⟩
  have b1 : w1.heap[w.heap.size]? = some (.cells #[.slice A0 l0.length c0, .slice A1 l1.length c1, .slice A2 l2.length c2] 30 (0, 0)) := blk_below (blk_alloc (blk_new _ _) _) hB1
  have b2 : w1.heap[w.heap.size + 1]? = some (.cells #[.slice none 0 0, .slice none 0 0, .slice none 0 0] 30 (0, 0)) := blk_below (by have := blk_new (w.alloc (.cells #[.slice A0 l0.length c0, .slice A1 l1.length c1, .slice A2 l2.length c2] 30)) (.cells #[.slice none 0 0, .slice none 0 0, .slice none 0 0] 30); simpa using this) hB1
  have hBw : Below w.heap.size w w1 := hbA.trans (hB1.mono (by simp; omega))
  have n02 := own_ne_of_types hV0 hV2
  have n12 := own_ne_of_types hV1 hV2
  have hV0' := Kd.R_bound hV0
  have hV1' := Kd.R_bound hV1
  have hV2' := Kd.R_bound hV2
  simp only [World.size_alloc] at hV0' hV1' hV2'
  have z1 := hB1.size
  simp only [World.size_alloc] at z1
  have z1a : w.heap.size < w1.heap.size := by omega
  have z1b : w.heap.size + 1 < w1.heap.size := by omega
  obtain ⟨a0, d0, e0⟩ := Kd.R_slice hV0'
  obtain ⟨a1, d1, e1⟩ := Kd.R_slice hV1'
  obtain ⟨a2, d2, e2⟩ := Kd.R_slice hV2'
  subst e0 e1 e2
  have B1 := Lib.hid b1
  have B2 := Lib.hid b2
  have HV0 := Lib.hid hV0'
  have HV1 := Lib.hid hV1'
  have HV2 := Lib.hid hV2'
  have HBw := Lib.hid hBw
  have k1a := blk_cell b1 0
  have k1b := blk_cell b1 1
  have k1c := blk_cell b1 2
  have f1a := blk_frozen b1 0
  have f1b := blk_frozen b1 1
  have f1c := blk_frozen b1 2
  simp only [List.getElem?_toArray, List.getElem?_cons_zero, List.getElem?_cons_succ] at k1a k1b k1c
  have N02 := Lib.hid n02
  have N12 := Lib.hid n12
  clear hbA hV0 hV1 hV2 hB1 b1 b2 hBw hV0' hV1' hV2' n02 n12
  have b2 := B2.out
  have r5a := blk_cell b2 0
  have r5b := blk_cell b2 1
  have r5c := blk_cell b2 2
  have g5a := blk_frozen b2 0
  have g5b := blk_frozen b2 1
  have g5c := blk_frozen b2 2
  simp only [List.getElem?_toArray, List.getElem?_cons_zero, List.getElem?_cons_succ] at r5a r5b r5c
  clear b2
  have t0 : ((l0.length : Int) == 0) = true := by rw [HE0.out]; rfl
  have t1 : ((l1.length : Int) == 0) = true := by rw [HE1.out]; rfl
  dsimp only
  go_wp2_with fail
  have hZ : ∀ k, k ≠ w.heap.size → k ≠ w.heap.size + 1 → ((((((w1.setCell ⟨w.heap.size, 0, none⟩ (.slice a0 l0.length d0)).setCell ⟨w.heap.size, 1, none⟩ (.slice a1 l1.length d1)).setCell ⟨w.heap.size, 2, none⟩ (.slice a2 l2.length d2)).setCell ⟨w.heap.size + 1, 0, none⟩ (.slice a0 l0.length d0)).setCell ⟨w.heap.size + 1, 1, none⟩ (.slice a1 l1.length d1)).setCell ⟨w.heap.size + 1, 2, none⟩ (.slice a2 l2.length d2)).heap[k]? = w1.heap[k]? := fun k h1 h2 => by
    rw [Below.heap_setCell _ _ _ _ h2, Below.heap_setCell _ _ _ _ h2, Below.heap_setCell _ _ _ _ h2, Below.heap_setCell _ _ _ _ h1, Below.heap_setCell _ _ _ _ h1, Below.heap_setCell _ _ _ _ h1]
  refine bodyPost_ret (results_cell_row rfl _ _ (w.heap.size + 1) 30 #[.slice a0 l0.length d0, .slice a1 l1.length d1, .slice a2 l2.length d2] (0, 0) _ rfl (blk_set (blk_set (blk_set (((Below.heap_setCell _ _ _ _ (by show w.heap.size + 1 ≠ w.heap.size; omega)).trans ((Below.heap_setCell _ _ _ _ (by show w.heap.size + 1 ≠ w.heap.size; omega)).trans (Below.heap_setCell _ _ _ _ (by show w.heap.size + 1 ≠ w.heap.size; omega)))).trans B2.out) 0 _) 1 _) 2 _) Try.underlying30 rfl (by kernel_rfl)) rfl ?_
  refine ⟨_, _, _, rfl, ?_, ?_, ?_, ?_⟩
  · exact Kd.R_lower (Kd.R_mono (Kd.R_move HV0.out (fun k hk => hZ k (by have := hk.2.1; omega) (by have := hk.2.1; omega))) (fun k hk => hk.1)) (by omega)
  · exact Kd.R_lower (Kd.R_mono (Kd.R_move HV1.out (fun k hk => hZ k (by have := hk.2.1; omega) (by have := hk.2.1; omega))) (fun k hk => hk.1)) (by omega)
  · exact Kd.R_lower (Kd.R_mono (Kd.R_move HV2.out (fun k hk => hZ k (by have := hk.2.1; omega) (by have := hk.2.1; omega))) (fun _ _ => trivial)) (by omega)
  · exact (((((HBw.out.setCell (p := ⟨w.heap.size, 0, none⟩) (Nat.le_refl _) _).setCell (p := ⟨w.heap.size, 1, none⟩) (Nat.le_refl _) _).setCell (p := ⟨w.heap.size, 2, none⟩) (Nat.le_refl _) _).setCell (p := ⟨w.heap.size + 1, 0, none⟩) (by show w.heap.size ≤ w.heap.size + 1; omega) _).setCell (p := ⟨w.heap.size + 1, 1, none⟩) (by show w.heap.size ≤ w.heap.size + 1; omega) _).setCell (p := ⟨w.heap.size + 1, 2, none⟩) (by show w.heap.size ≤ w.heap.size + 1; omega) _
end Go.Proofs.Ytedghbjmhcgilaa.A
end
section
namespace Go.Proofs.Ytedghbjmhcgilaa.A
open Go.RowKit Go.Shelf Go.Maps Go.Proofs.YtedghbjmhcgilaaW.PrintWords Go.Proofs.YtedghbjmhcgilaaW.PrintLast Go.Proofs.YtedghbjmhcgilaaW.PrintMore
open Go.Proofs.Ytedghbjmhcgilaa.POpt
set_option linter.unusedVariables false
set_option linter.unusedSimpArgs false
def FuseF (l0 l1 : List S35) (l2 : List S37) : Option (List S35 × List S35 × List S37) := if okB l0 l1 l2 = true then some ((fuseP l0 l2).1, (fuseP l1 []).1, (fuseP l0 l2).2) else none
def ThreadF (l0 l1 : List S35) (l2 : List S37) : Option (List S35 × List S35 × List S37) := if okB l0 l1 l2 = true then some (l0.map (placed (thr l0)), l1, l2.map (placedR (thr l0))) else none
def TrimF (k : Nat) (l0 l1 : List S35) (l2 : List S37) : Option (List S35 × List S35 × List S37) := if okB l0 l1 l2 = true then (if l0.length = 0 ∧ l1.length = 0 then some (l0, l1, l2) else (opt_reached.f k l0 l2).bind fun r0 => (opt_reached.f k l1 []).bind fun r1 => if r0.length = l0.length ∧ r1.length = l1.length then some ((trimP r0 l0 l2).1, (trimP r1 l1 []).1, trimRows r0 l0 l2) else none) else none
section
variable (A0 : Option Addr) (c0 : Nat) (l0 : List S35) (A1 : Option Addr) (c1 : Nat) (l1 : List S35) (A2 : Option Addr) (c2 : Nat) (l2 : List S37) (r1 : List S35) (r2 : List S35) (r3 : List S37) (w : World)
    (hr0 : Kd.C k35 w A0 l0.length l0) (hc0 : l0.length ≤ c0) (hr1 : Kd.C k35 w A1 l1.length l1) (hc1 : l1.length ≤ c1) (hr2 : Kd.C k37 w A2 l2.length l2) (hc2 : l2.length ≤ c2)
include hr0 hc0 hr1 hc1 hr2 hc2
theorem FuseF_calls (h : FuseF l0 l1 l2 = some (r1, r2, r3)) :
    Calls Try.prog 13 #[.agg #[.slice A0 l0.length c0, .slice A1 l1.length c1, .slice A2 l2.length c2]] w fun e w' => ∃ v0_ v1_ v2_ : Value, e = .returned (.agg #[v0_, v1_, v2_]) ∧ Kd.R k35 35 w' w.heap.size (fun k_ => some k_ ≠ (v1_ : Value).ownBlock) v0_ r1 ∧ Kd.R k35 35 w' w.heap.size (fun k_ => some k_ ≠ (v0_ : Value).ownBlock) v1_ r2 ∧ Kd.R k37 37 w' w.heap.size (fun _ => True) v2_ r3 ∧ Below w.heap.size w w' := by
  unfold FuseF at h
  split at h
  case isFalse => cases h
  rename_i hok
  obtain ⟨hf, hw0, hw1, hw2⟩ := okB_wf hok
  injection h with h
  injection h with h1 h
  injection h with h2 h3
  subst h1 h2 h3
  exact Fuse_calls A0 c0 l0 A1 c1 l1 A2 c2 l2 w hr0 hc0 hr1 hc1 hr2 hc2 hf hw0 hw1 hw2
theorem ThreadF_calls (h : ThreadF l0 l1 l2 = some (r1, r2, r3)) :
    Calls Try.prog 15 #[.agg #[.slice A0 l0.length c0, .slice A1 l1.length c1, .slice A2 l2.length c2]] w fun e w' => ∃ v0_ v1_ v2_ : Value, e = .returned (.agg #[v0_, v1_, v2_]) ∧ Kd.R k35 35 w' w.heap.size (fun k_ => some k_ ≠ (v1_ : Value).ownBlock) v0_ r1 ∧ Kd.R k35 35 w' w.heap.size (fun k_ => some k_ ≠ (v0_ : Value).ownBlock) v1_ r2 ∧ Kd.R k37 37 w' w.heap.size (fun _ => True) v2_ r3 ∧ Below w.heap.size w w' := by
  unfold ThreadF at h
  split at h
  case isFalse => cases h
  rename_i hok
  obtain ⟨hf, hw0, hw1, hw2⟩ := okB_wf hok
  obtain ⟨f0, f1, f2⟩ := fitB_iff.1 hf
  have hcp := copied_some f0 f1 f2
  injection h with h
  injection h with h1 h
  injection h with h2 h3
  subst h1 h2 h3
  have hl : api_Ins_42.f l0 = some l0 := by
    unfold opt_copied.f at hcp
    cases hx : api_Ins_42.f l0 with
    | none => rw [hx] at hcp; cases hcp
    | some t =>
      rw [hx] at hcp
      simp only [Option.bind_some] at hcp
      cases hy : api_Ins_42.f l1 with
      | none => rw [hy] at hcp; cases hcp
      | some t2 =>
        rw [hy] at hcp
        simp only [Option.bind_some] at hcp
        cases hz : api_Line_54.f l2 with
        | none => rw [hz] at hcp; cases hcp
        | some t3 =>
          rw [hz] at hcp
          simp only [Option.bind_some] at hcp
          injection hcp with hcp
          injection hcp with hcp _
          rw [hcp]
  exact Thread_calls A0 c0 l0 A1 c1 l1 A2 c2 l2 w hr0 hc0 hr1 hc1 hr2 hc2 (by omega) (by omega) hl hcp
theorem TrimF_calls (k : Nat) (h : TrimF k l0 l1 l2 = some (r1, r2, r3)) :
    Calls Try.prog 17 #[.agg #[.slice A0 l0.length c0, .slice A1 l1.length c1, .slice A2 l2.length c2]] w fun e w' => ∃ v0_ v1_ v2_ : Value, e = .returned (.agg #[v0_, v1_, v2_]) ∧ Kd.R k35 35 w' w.heap.size (fun k_ => some k_ ≠ (v1_ : Value).ownBlock) v0_ r1 ∧ Kd.R k35 35 w' w.heap.size (fun k_ => some k_ ≠ (v0_ : Value).ownBlock) v1_ r2 ∧ Kd.R k37 37 w' w.heap.size (fun _ => True) v2_ r3 ∧ Below w.heap.size w w' := by
  unfold TrimF at h
  split at h
  case isFalse => cases h
  rename_i hok
  obtain ⟨hf, hw0, hw1, hw2⟩ := okB_wf hok
  by_cases he : l0.length = 0 ∧ l1.length = 0
  · rw [if_pos he] at h
    injection h with h
    injection h with h1 h
    injection h with h2 h3
    subst h1 h2 h3
    exact Trim_empty A0 c0 l0 A1 c1 l1 A2 c2 l2 w hr0 hc0 hr1 hc1 hr2 hc2 hf hw0 hw1 hw2 (List.eq_nil_of_length_eq_zero he.1) (List.eq_nil_of_length_eq_zero he.2)
  · rw [if_neg he] at h
    cases hq0 : opt_reached.f k l0 l2 with
    | none => rw [hq0] at h; cases h
    | some q0 =>
      rw [hq0] at h
      simp only [Option.bind_some] at h
      cases hq1 : opt_reached.f k l1 [] with
      | none => rw [hq1] at h; cases h
      | some q1 =>
        rw [hq1] at h
        simp only [Option.bind_some] at h
        split at h
        case isFalse => cases h
        rename_i hl
        injection h with h
        injection h with h1 h
        injection h with h2 h3
        subst h1 h2 h3
        exact Trim_calls A0 c0 l0 A1 c1 l1 A2 c2 l2 w hr0 hc0 hr1 hc1 hr2 hc2 hf hw0 hw1 hw2 k k q0 q1 hq0 hl.1 hq1 hl.2 he
end
end Go.Proofs.Ytedghbjmhcgilaa.A
end
section
namespace Go.Proofs.Ytedghbjmhcgilaa.A
open Go.RowKit Go.Shelf Go.Maps Go.Proofs.YtedghbjmhcgilaaW.PrintWords Go.Proofs.YtedghbjmhcgilaaW.PrintLast Go.Proofs.YtedghbjmhcgilaaW.PrintMore
open Go.Proofs.Ytedghbjmhcgilaa.POpt
attribute [local go_sem] Oper.semAt_some
set_option linter.unusedVariables false
set_option linter.unusedSimpArgs false
def BlockF (k : Nat) (l0 l1 : List S35) (l2 : List S37) : Option (List S35 × List S35 × List S37) := (TablesF l0 l1 l2).bind fun a => (FuseF a.1 a.2.1 a.2.2).bind fun b => (ThreadF b.1 b.2.1 b.2.2).bind fun c => TrimF k c.1 c.2.1 c.2.2
theorem passes_calls (w : World) : Calls Try.prog 48 #[] w fun e w' => e = .returned (.slice (some ⟨w.heap.size, 0, none⟩) 4 4) ∧ w.alloc (.cells #[.func (.func 11) #[] #[], .func (.func 13) #[] #[], .func (.func 15) #[] #[], .func (.func 17) #[] #[]] 32) = w' := by
  go_enter Try.func48, Try.ntmps48
  go_wp2_with fail
  go_ret
  exact ⟨rfl, rfl⟩
structure BC (W : World) (A0 : Option Addr) (c0 : Nat) (A1 : Option Addr) (c1 : Nat) (A2 : Option Addr) (c2 : Nat) (s : List S35 × List S35 × List S37) : Prop where
  r0 : Kd.C k35 W A0 s.1.length s.1
  m0 : s.1.length ≤ c0
  r1 : Kd.C k35 W A1 s.2.1.length s.2.1
  m1 : s.2.1.length ≤ c1
  r2 : Kd.C k37 W A2 s.2.2.length s.2.2
  m2 : s.2.2.length ≤ c2
structure BR (base : Nat) (W : World) (A0 : Option Addr) (c0 : Nat) (A1 : Option Addr) (c1 : Nat) (A2 : Option Addr) (c2 : Nat) (s : List S35 × List S35 × List S37) : Prop where
  r0 : Kd.R k35 35 W base (fun k_ => some k_ ≠ (Value.slice A1 s.2.1.length c1).ownBlock) (.slice A0 s.1.length c0) s.1
  r1 : Kd.R k35 35 W base (fun k_ => some k_ ≠ (Value.slice A0 s.1.length c0).ownBlock) (.slice A1 s.2.1.length c1) s.2.1
  r2 : Kd.R k37 37 W base (fun _ => True) (.slice A2 s.2.2.length c2) s.2.2
theorem BR.reads {base : Nat} {W : World} {A0 : Option Addr} {c0 : Nat} {A1 : Option Addr} {c1 : Nat} {A2 : Option Addr} {c2 : Nat} {s : List S35 × List S35 × List S37} (h : BR base W A0 c0 A1 c1 A2 c2 s) : BC W A0 c0 A1 c1 A2 c2 s := by
  obtain ⟨_, m0, h0⟩ := Kd.R_reads' h.r0
  obtain ⟨_, m1, h1⟩ := Kd.R_reads' h.r1
  obtain ⟨_, m2, h2⟩ := Kd.R_reads' h.r2
  exact ⟨h0, m0, h1, m1, h2, m2⟩
theorem BR.far {base : Nat} {W W' : World} {A0 : Option Addr} {c0 : Nat} {A1 : Option Addr} {c1 : Nat} {A2 : Option Addr} {c2 : Nat} {s : List S35 × List S35 × List S37} (h : BR base W A0 c0 A1 c1 A2 c2 s) (hm : ∀ k, base ≤ k → W'.heap[k]? = W.heap[k]?) : BR base W' A0 c0 A1 c1 A2 c2 s :=
  ⟨Kd.R_mono (Kd.R_move (Kd.R_bound h.r0) (fun k hk => hm k hk.2.1)) (fun _ hk => hk.1), Kd.R_mono (Kd.R_move (Kd.R_bound h.r1) (fun k hk => hm k hk.2.1)) (fun _ hk => hk.1), Kd.R_mono (Kd.R_move (Kd.R_bound h.r2) (fun k hk => hm k hk.2.1)) (fun _ hk => hk.1)⟩
theorem BR.lower {base base' : Nat} {W : World} {A0 : Option Addr} {c0 : Nat} {A1 : Option Addr} {c1 : Nat} {A2 : Option Addr} {c2 : Nat} {s : List S35 × List S35 × List S37} (h : BR base W A0 c0 A1 c1 A2 c2 s) (hb : base' ≤ base) : BR base' W A0 c0 A1 c1 A2 c2 s :=
  ⟨Kd.R_lower h.r0 hb, Kd.R_lower h.r1 hb, Kd.R_lower h.r2 hb⟩
set_option maxRecDepth 100000 in
set_option maxHeartbeats 2000000 in
theorem BlockF_calls (k : Nat) (A0 : Option Addr) (c0 : Nat) (l0 : List S35) (A1 : Option Addr) (c1 : Nat) (l1 : List S35) (A2 : Option Addr) (c2 : Nat) (l2 : List S37) (r1' : List S35) (r2' : List S35) (r3' : List S37) (w : World)
    (hr0 : Kd.C k35 w A0 l0.length l0) (hc0 : l0.length ≤ c0) (hr1 : Kd.C k35 w A1 l1.length l1) (hc1 : l1.length ≤ c1) (hr2 : Kd.C k37 w A2 l2.length l2) (hc2 : l2.length ≤ c2) (h : BlockF k l0 l1 l2 = some (r1', r2', r3')) :
    Calls Try.prog 19 #[.agg #[.slice A0 l0.length c0, .slice A1 l1.length c1, .slice A2 l2.length c2]] w fun e w' => ∃ v0_ v1_ v2_ : Value, e = .returned (.agg #[v0_, v1_, v2_]) ∧ Kd.R k35 35 w' w.heap.size (fun k_ => some k_ ≠ (v1_ : Value).ownBlock) v0_ r1' ∧ Kd.R k35 35 w' w.heap.size (fun k_ => some k_ ≠ (v0_ : Value).ownBlock) v1_ r2' ∧ Kd.R k37 37 w' w.heap.size (fun _ => True) v2_ r3' ∧ Below w.heap.size w w' := by
  obtain ⟨st, q0, q1, q2, q3, q4, q5⟩ : ∃ st : Nat → List S35 × List S35 × List S37, st 0 = (l0, l1, l2) ∧ TablesF (st 0).1 (st 0).2.1 (st 0).2.2 = some (st 1) ∧ FuseF (st 1).1 (st 1).2.1 (st 1).2.2 = some (st 2) ∧ ThreadF (st 2).1 (st 2).2.1 (st 2).2.2 = some (st 3) ∧ TrimF k (st 3).1 (st 3).2.1 (st 3).2.2 = some (st 4) ∧ st 4 = (r1', r2', r3') := by
    unfold BlockF at h
    obtain ⟨a, ha, h⟩ := Option.bind_eq_some_iff.mp h
    obtain ⟨b, hb, h⟩ := Option.bind_eq_some_iff.mp h
    obtain ⟨c, hc, h⟩ := Option.bind_eq_some_iff.mp h
    exact ⟨fun i => match i with | 0 => (l0, l1, l2) | 1 => a | 2 => b | 3 => c | _ => (r1', r2', r3'), rfl, ha, hb, hc, h, rfl⟩
  go_enter Try.func19, Try.ntmps19
  have HBC : Hid (BC w A0 c0 A1 c1 A2 c2 (st 0)) := by rw [q0]; exact ⟨hr0, hc0, hr1, hc1, hr2, hc2⟩
  have Q0 := Lib.hid q0
  have Q1 := Lib.hid q1
  have Q2 := Lib.hid q2
  have Q3 := Lib.hid q3
  have Q4 := Lib.hid q4
  have Q5 := Lib.hid q5
  clear h hr0 hr1 hr2 q0 q1 q2 q3 q4 q5
  go_wp2_with fail
  refine (passes_calls _).mono ?_
  rintro e w1 ⟨rfl, hw1⟩
  have b1 : w1.heap[w.heap.size]? = some (.cells #[.slice A0 l0.length c0, .slice A1 l1.length c1, .slice A2 l2.length c2] 30 (0, 0)) := by rw [← hw1]; exact blk_alloc (blk_alloc (blk_new _ _) _) _
  have b2 : w1.heap[w.heap.size + 1]? = some (.cells #[.slice none 0 0, .slice none 0 0, .slice none 0 0] 30 (0, 0)) := by
    rw [← hw1]
    refine blk_alloc ?_ _
    have := blk_new (w.alloc (.cells #[.slice A0 l0.length c0, .slice A1 l1.length c1, .slice A2 l2.length c2] 30)) (.cells #[.slice none 0 0, .slice none 0 0, .slice none 0 0] 30); simpa using this
  have b3 : w1.heap[w.heap.size + 2]? = some (.cells #[.func (.func 11) #[] #[], .func (.func 13) #[] #[], .func (.func 15) #[] #[], .func (.func 17) #[] #[]] 32 (0, 0)) := by
    rw [← hw1]
    have := blk_new ((w.alloc (.cells #[.slice A0 l0.length c0, .slice A1 l1.length c1, .slice A2 l2.length c2] 30)).alloc (.cells #[.slice none 0 0, .slice none 0 0, .slice none 0 0] 30)) (.cells #[.func (.func 11) #[] #[], .func (.func 13) #[] #[], .func (.func 15) #[] #[], .func (.func 17) #[] #[]] 32); simpa using this
  have hB : Below w.heap.size w w1 := by rw [← hw1]; exact ((((Below.refl _ _).alloc (Nat.le_refl _) _).alloc (by simp) _).alloc (by simp; omega) _)
  have B1 := Lib.hid b1
  have B2 := Lib.hid b2
  have B3 := Lib.hid b3
  have HB := Lib.hid hB
  have HC1 : Hid (BC w1 A0 c0 A1 c1 A2 c2 (st 0)) := ⟨Kd.C_below HBC.out.r0 hB, HBC.out.m0, Kd.C_below HBC.out.r1 hB, HBC.out.m1, Kd.C_below HBC.out.r2 hB, HBC.out.m2⟩
  clear hw1 b1 b2 b3 hB
  dsimp only
  simp only [World.size_alloc]
  go_wp2_with fail
  go_loopw [7] (fun s7 wl => ∃ (i : Nat) (a0 : Option Addr) (d0 : Nat) (a1 : Option Addr) (d1 : Nat) (a2 : Option Addr) (d2 : Nat), i ≤ 4 ∧ s7 = .int .i64 i ∧ Hid (Below w.heap.size w wl) ∧ Hid (wl.heap[w.heap.size]? = some (.cells #[.slice a0 (st i).1.length d0, .slice a1 (st i).2.1.length d1, .slice a2 (st i).2.2.length d2] 30 (0, 0))) ∧ Hid (wl.heap[w.heap.size + 1]? = some (.cells #[.slice none 0 0, .slice none 0 0, .slice none 0 0] 30 (0, 0))) ∧ Hid (wl.heap[w.heap.size + 2]? = some (.cells #[.func (.func 11) #[] #[], .func (.func 13) #[] #[], .func (.func 15) #[] #[], .func (.func 17) #[] #[]] 32 (0, 0))) ∧ Hid (BC wl a0 d0 a1 d1 a2 d2 (st i)) ∧ Hid (0 < i → BR (w.heap.size + 3) wl a0 d0 a1 d1 a2 d2 (st i))) (fun s7 _ => 4 - (intOf s7).toNat)
  case atStart => exact ⟨0, A0, c0, A1, c1, A2, c2, by omega, rfl, HB.out, by rw [Q0.out]; exact B1.out, B2.out, B3.out, HC1.out, fun h => absurd h (by omega)⟩
  case round =>
    obtain ⟨i, a0, d0, a1, d1, a2, d2, hi, rfl, hB, hb1, hb2, hb3, hC, hR⟩ := hrel
    have hz := blk_lt hb3.out
    have hz1 := blk_lt hb1.out
    have hz2 := blk_lt hb2.out
    have k1 := blk_cell hb1.out 0
    have k2 := blk_cell hb1.out 1
    have k3 := blk_cell hb1.out 2
    have f1 := blk_frozen hb1.out 0
    have f2 := blk_frozen hb1.out 1
    have f3 := blk_frozen hb1.out 2
    simp only [List.getElem?_toArray, List.getElem?_cons_zero, List.getElem?_cons_succ] at k1 k2 k3
    have m0 := blk_cell hb3.out 0
    have m1 := blk_cell hb3.out 1
    have m2 := blk_cell hb3.out 2
    have m3 := blk_cell hb3.out 3
    simp only [List.getElem?_toArray, List.getElem?_cons_zero, List.getElem?_cons_succ] at m0 m1 m2 m3
    have fin : ∀ (u0 u1 u2 : Value) (s : List S35 × List S35 × List S37) (W : World), Kd.R k35 35 W wr.heap.size (fun k_ => some k_ ≠ (u1 : Value).ownBlock) u0 s.1 → Kd.R k35 35 W wr.heap.size (fun k_ => some k_ ≠ (u0 : Value).ownBlock) u1 s.2.1 → Kd.R k37 37 W wr.heap.size (fun _ => True) u2 s.2.2 → Below wr.heap.size wr W → ∃ (a0' : Option Addr) (d0' : Nat) (a1' : Option Addr) (d1' : Nat) (a2' : Option Addr) (d2' : Nat), u0 = .slice a0' s.1.length d0' ∧ u1 = .slice a1' s.2.1.length d1' ∧ u2 = .slice a2' s.2.2.length d2' ∧ Aside ((((W.setCell ⟨w.heap.size, 0, none⟩ u0).setCell ⟨w.heap.size, 1, none⟩ u1).setCell ⟨w.heap.size, 2, none⟩ u2).heap[w.heap.size]? = some (.cells #[u0, u1, u2] 30 (0, 0)) ∧ (((W.setCell ⟨w.heap.size, 0, none⟩ u0).setCell ⟨w.heap.size, 1, none⟩ u1).setCell ⟨w.heap.size, 2, none⟩ u2).heap[w.heap.size + 1]? = some (.cells #[.slice none 0 0, .slice none 0 0, .slice none 0 0] 30 (0, 0)) ∧ (((W.setCell ⟨w.heap.size, 0, none⟩ u0).setCell ⟨w.heap.size, 1, none⟩ u1).setCell ⟨w.heap.size, 2, none⟩ u2).heap[w.heap.size + 2]? = some (.cells #[.func (.func 11) #[] #[], .func (.func 13) #[] #[], .func (.func 15) #[] #[], .func (.func 17) #[] #[]] 32 (0, 0)) ∧ Below w.heap.size w (((W.setCell ⟨w.heap.size, 0, none⟩ u0).setCell ⟨w.heap.size, 1, none⟩ u1).setCell ⟨w.heap.size, 2, none⟩ u2) ∧ BR (w.heap.size + 3) (((W.setCell ⟨w.heap.size, 0, none⟩ u0).setCell ⟨w.heap.size, 1, none⟩ u1).setCell ⟨w.heap.size, 2, none⟩ u2) a0' d0' a1' d1' a2' d2' s) := by
      intro u0 u1 u2 s W h0 h1 h2 hb
      obtain ⟨a0', d0', e0⟩ := Kd.R_slice h0
      obtain ⟨a1', d1', e1⟩ := Kd.R_slice h1
      obtain ⟨a2', d2', e2⟩ := Kd.R_slice h2
      have hW : ∀ k, k ≠ w.heap.size → (((W.setCell ⟨w.heap.size, 0, none⟩ u0).setCell ⟨w.heap.size, 1, none⟩ u1).setCell ⟨w.heap.size, 2, none⟩ u2).heap[k]? = W.heap[k]? := fun k h => by
        rw [Below.heap_setCell _ _ _ _ h, Below.heap_setCell _ _ _ _ h, Below.heap_setCell _ _ _ _ h]
      refine ⟨a0', d0', a1', d1', a2', d2', e0, e1, e2, ⟨?_, ?_, ?_, ?_, ?_⟩⟩
      · exact blk_set (blk_set (blk_set (blk_below hb1.out hb) 0 _) 1 _) 2 _
      · exact (hW _ (by omega)).trans (blk_below hb2.out hb)
      · exact (hW _ (by omega)).trans (blk_below hb3.out hb)
      · exact (((hB.out.trans (hb.mono hB.out.size)).setCell (p := ⟨w.heap.size, 0, none⟩) (Nat.le_refl _) _).setCell (p := ⟨w.heap.size, 1, none⟩) (Nat.le_refl _) _).setCell (p := ⟨w.heap.size, 2, none⟩) (Nat.le_refl _) _
      · have hr : BR wr.heap.size W a0' d0' a1' d1' a2' d2' s := by subst e0 e1 e2; exact ⟨h0, h1, h2⟩
        exact (hr.far (fun k hk => hW k (by omega))).lower (by omega)
    have FIN := Lib.hid fin
    clear fin
    have goes : ∀ j, i = j → j < 4 → True := fun _ _ _ => trivial
    clear goes
    have hcase : i = 0 ∨ i = 1 ∨ i = 2 ∨ i = 3 ∨ i = 4 := by omega
    rcases hcase with rfl | rfl | rfl | rfl | rfl
    · go_wp2_with fail
      refine (TablesF_calls a0 d0 (st 0).1 a1 d1 (st 0).2.1 a2 d2 (st 0).2.2 (st 1).1 (st 1).2.1 (st 1).2.2 wr hC.out.r0 hC.out.m0 hC.out.r1 hC.out.m1 hC.out.r2 hC.out.m2 Q1.out).mono ?_
      rintro e w3 ⟨u0, u1, u2, rfl, h0, h1, h2, hb⟩
      have c1 := blk_below hb1.out hb
      have z3 := hb.size
      obtain ⟨a0', d0', a1', d1', a2', d2', rfl, rfl, rfl, hA⟩ := FIN.out u0 u1 u2 (st 1) w3 h0 h1 h2 hb
      clear h0 h1 h2 hb k1 k2 k3 f1 f2 f3 m0 m1 m2 m3
      have k1 := blk_cell c1 0
      have k2 := blk_cell c1 1
      have k3 := blk_cell c1 2
      have f1 := blk_frozen c1 0
      have f2 := blk_frozen c1 1
      have f3 := blk_frozen c1 2
      simp only [List.getElem?_toArray, List.getElem?_cons_zero, List.getElem?_cons_succ] at k1 k2 k3
      clear c1
      have hz3 : w.heap.size < w3.heap.size := by omega
      dsimp only
      go_wp2_with fail
      exact ⟨⟨1, a0', d0', a1', d1', a2', d2', by omega, by go_num, hA.out.2.2.2.1, hA.out.1, hA.out.2.1, hA.out.2.2.1, hA.out.2.2.2.2.reads, fun _ => hA.out.2.2.2.2⟩, by simp [intOf]⟩
    · go_wp2_with fail
      refine (FuseF_calls a0 d0 (st 1).1 a1 d1 (st 1).2.1 a2 d2 (st 1).2.2 (st 2).1 (st 2).2.1 (st 2).2.2 wr hC.out.r0 hC.out.m0 hC.out.r1 hC.out.m1 hC.out.r2 hC.out.m2 Q2.out).mono ?_
      rintro e w3 ⟨u0, u1, u2, rfl, h0, h1, h2, hb⟩
      have c1 := blk_below hb1.out hb
      have z3 := hb.size
      obtain ⟨a0', d0', a1', d1', a2', d2', rfl, rfl, rfl, hA⟩ := FIN.out u0 u1 u2 (st 2) w3 h0 h1 h2 hb
      clear h0 h1 h2 hb k1 k2 k3 f1 f2 f3 m0 m1 m2 m3
      have k1 := blk_cell c1 0
      have k2 := blk_cell c1 1
      have k3 := blk_cell c1 2
      have f1 := blk_frozen c1 0
      have f2 := blk_frozen c1 1
      have f3 := blk_frozen c1 2
      simp only [List.getElem?_toArray, List.getElem?_cons_zero, List.getElem?_cons_succ] at k1 k2 k3
      clear c1
      have hz3 : w.heap.size < w3.heap.size := by omega
      dsimp only
      go_wp2_with fail
      exact ⟨⟨2, a0', d0', a1', d1', a2', d2', by omega, by go_num, hA.out.2.2.2.1, hA.out.1, hA.out.2.1, hA.out.2.2.1, hA.out.2.2.2.2.reads, fun _ => hA.out.2.2.2.2⟩, by simp [intOf]⟩
    · go_wp2_with fail
      refine (ThreadF_calls a0 d0 (st 2).1 a1 d1 (st 2).2.1 a2 d2 (st 2).2.2 (st 3).1 (st 3).2.1 (st 3).2.2 wr hC.out.r0 hC.out.m0 hC.out.r1 hC.out.m1 hC.out.r2 hC.out.m2 Q3.out).mono ?_
      rintro e w3 ⟨u0, u1, u2, rfl, h0, h1, h2, hb⟩
      have c1 := blk_below hb1.out hb
      have z3 := hb.size
      obtain ⟨a0', d0', a1', d1', a2', d2', rfl, rfl, rfl, hA⟩ := FIN.out u0 u1 u2 (st 3) w3 h0 h1 h2 hb
      clear h0 h1 h2 hb k1 k2 k3 f1 f2 f3 m0 m1 m2 m3
      have k1 := blk_cell c1 0
      have k2 := blk_cell c1 1
      have k3 := blk_cell c1 2
      have f1 := blk_frozen c1 0
      have f2 := blk_frozen c1 1
      have f3 := blk_frozen c1 2
      simp only [List.getElem?_toArray, List.getElem?_cons_zero, List.getElem?_cons_succ] at k1 k2 k3
      clear c1
      have hz3 : w.heap.size < w3.heap.size := by omega
      dsimp only
      go_wp2_with fail
      exact ⟨⟨3, a0', d0', a1', d1', a2', d2', by omega, by go_num, hA.out.2.2.2.1, hA.out.1, hA.out.2.1, hA.out.2.2.1, hA.out.2.2.2.2.reads, fun _ => hA.out.2.2.2.2⟩, by simp [intOf]⟩
    · go_wp2_with fail
      refine (TrimF_calls a0 d0 (st 3).1 a1 d1 (st 3).2.1 a2 d2 (st 3).2.2 (st 4).1 (st 4).2.1 (st 4).2.2 wr hC.out.r0 hC.out.m0 hC.out.r1 hC.out.m1 hC.out.r2 hC.out.m2 k Q4.out).mono ?_
      rintro e w3 ⟨u0, u1, u2, rfl, h0, h1, h2, hb⟩
      have c1 := blk_below hb1.out hb
      have z3 := hb.size
      obtain ⟨a0', d0', a1', d1', a2', d2', rfl, rfl, rfl, hA⟩ := FIN.out u0 u1 u2 (st 4) w3 h0 h1 h2 hb
      clear h0 h1 h2 hb k1 k2 k3 f1 f2 f3 m0 m1 m2 m3
      have k1 := blk_cell c1 0
      have k2 := blk_cell c1 1
      have k3 := blk_cell c1 2
      have f1 := blk_frozen c1 0
      have f2 := blk_frozen c1 1
      have f3 := blk_frozen c1 2
      simp only [List.getElem?_toArray, List.getElem?_cons_zero, List.getElem?_cons_succ] at k1 k2 k3
      clear c1
      have hz3 : w.heap.size < w3.heap.size := by omega
      dsimp only
      go_wp2_with fail
      exact ⟨⟨4, a0', d0', a1', d1', a2', d2', by omega, by go_num, hA.out.2.2.2.1, hA.out.1, hA.out.2.1, hA.out.2.2.1, hA.out.2.2.2.2.reads, fun _ => hA.out.2.2.2.2⟩, by simp [intOf]⟩
    · have HR := Lib.hid (hR.out (by omega))
      have HB2 := Lib.hid hb2.out
      have r1 := blk_cell hb2.out 0
      have r2 := blk_cell hb2.out 1
      have r3 := blk_cell hb2.out 2
      have g1 := blk_frozen hb2.out 0
      have g2 := blk_frozen hb2.out 1
      have g3 := blk_frozen hb2.out 2
      simp only [List.getElem?_toArray, List.getElem?_cons_zero, List.getElem?_cons_succ] at r1 r2 r3
      clear m0 m1 m2 m3
      go_wp2_with fail
      have hZ : ∀ k, k ≠ w.heap.size + 1 → (((wr.setCell ⟨w.heap.size + 1, 0, none⟩ (.slice a0 (st 4).1.length d0)).setCell ⟨w.heap.size + 1, 1, none⟩ (.slice a1 (st 4).2.1.length d1)).setCell ⟨w.heap.size + 1, 2, none⟩ (.slice a2 (st 4).2.2.length d2)).heap[k]? = wr.heap[k]? := fun k h2 => by
        rw [Below.heap_setCell _ _ _ _ h2, Below.heap_setCell _ _ _ _ h2, Below.heap_setCell _ _ _ _ h2]
      refine bodyPost_ret (results_cell_row rfl _ _ (w.heap.size + 1) 30 #[.slice a0 (st 4).1.length d0, .slice a1 (st 4).2.1.length d1, .slice a2 (st 4).2.2.length d2] (0, 0) _ rfl (blk_set (blk_set (blk_set HB2.out 0 _) 1 _) 2 _) Try.underlying30 rfl (by kernel_rfl)) rfl ?_
      have hr := (HR.out.far (W' := ((wr.setCell ⟨w.heap.size + 1, 0, none⟩ (.slice a0 (st 4).1.length d0)).setCell ⟨w.heap.size + 1, 1, none⟩ (.slice a1 (st 4).2.1.length d1)).setCell ⟨w.heap.size + 1, 2, none⟩ (.slice a2 (st 4).2.2.length d2)) (fun k hk => hZ k (by omega))).lower (show w.heap.size ≤ w.heap.size + 3 by omega)
      have hbel : Below w.heap.size w (((wr.setCell ⟨w.heap.size + 1, 0, none⟩ (.slice a0 (st 4).1.length d0)).setCell ⟨w.heap.size + 1, 1, none⟩ (.slice a1 (st 4).2.1.length d1)).setCell ⟨w.heap.size + 1, 2, none⟩ (.slice a2 (st 4).2.2.length d2)) := ((hB.out.setCell (p := ⟨w.heap.size + 1, 0, none⟩) (by show w.heap.size ≤ w.heap.size + 1; omega) _).setCell (p := ⟨w.heap.size + 1, 1, none⟩) (by show w.heap.size ≤ w.heap.size + 1; omega) _).setCell (p := ⟨w.heap.size + 1, 2, none⟩) (by show w.heap.size ≤ w.heap.size + 1; omega) _
      have e1 : (st 4).1 = r1' := by rw [Q5.out]
      have e2 : (st 4).2.1 = r2' := by rw [Q5.out]
      have e3 : (st 4).2.2 = r3' := by rw [Q5.out]
      refine ⟨_, _, _, rfl, ?_, ?_, ?_, hbel⟩
      · rw [← e1]; exact hr.r0
      · rw [← e2]; exact hr.r1
      · rw [← e3]; exact hr.r2
end Go.Proofs.Ytedghbjmhcgilaa.A
end
section
namespace Go.Proofs.Ytedghbjmhcgilaa.POpt
open Go.RowKit Go.Proofs.YtedghbjmhcgilaaW.PrintWords Go.Proofs.YtedghbjmhcgilaaW.PrintLast Go.Proofs.YtedghbjmhcgilaaW.PrintMore
attribute [local go_sem] max2_int min2_int max_two min_two max_three min_three max_four min_four
set_option linter.unusedVariables false
set_option linter.unusedSimpArgs false
def opt_Block.f (k : Nat) (l0_0 : List (S35)) (l0_1 : List (S35)) (l0_2 : List (S37)) : Option ((List (S35)) × (List (S35)) × (List (S37))) := A.BlockF k l0_0 l0_1 l0_2
theorem opt_Block.calls (k : Nat) (A0_0 : Option Addr) (c0_0 : Nat) (l0_0 : List (S35)) (A0_1 : Option Addr) (c0_1 : Nat) (l0_1 : List (S35)) (A0_2 : Option Addr) (c0_2 : Nat) (l0_2 : List (S37)) (r1 : List (S35)) (r2 : List (S35)) (r3 : List (S37)) (w : World) (hr0_0 : Kd.C k35 w A0_0 l0_0.length l0_0) (hc0_0 : l0_0.length ≤ c0_0) (hr0_1 : Kd.C k35 w A0_1 l0_1.length l0_1) (hc0_1 : l0_1.length ≤ c0_1) (hr0_2 : Kd.C k37 w A0_2 l0_2.length l0_2) (hc0_2 : l0_2.length ≤ c0_2) (h : opt_Block.f k l0_0 l0_1 l0_2 = some (r1, r2, r3)) :
  Calls Try.prog 19 #[.agg #[.slice A0_0 l0_0.length c0_0, .slice A0_1 l0_1.length c0_1, .slice A0_2 l0_2.length c0_2]] w fun e w' => ∃ v0_ v1_ v2_ : Value, e = .returned (.agg #[v0_, v1_, v2_]) ∧ Kd.R k35 35 w' w.heap.size (fun k_ => some k_ ≠ (v1_ : Value).ownBlock) v0_ r1 ∧ Kd.R k35 35 w' w.heap.size (fun k_ => some k_ ≠ (v0_ : Value).ownBlock) v1_ r2 ∧ Kd.R k37 37 w' w.heap.size (fun _ => True) v2_ r3 ∧ Below w.heap.size w w' :=
 A.BlockF_calls k A0_0 c0_0 l0_0 A0_1 c0_1 l0_1 A0_2 c0_2 l0_2 r1 r2 r3 w hr0_0 hc0_0 hr0_1 hc0_1 hr0_2 hc0_2 h
end Go.Proofs.Ytedghbjmhcgilaa.POpt
end
section
namespace Go.Proofs.Ytedghbjmhcgilaa.POpt
open Go.RowKit Go.Proofs.YtedghbjmhcgilaaW.PrintWords Go.Proofs.YtedghbjmhcgilaaW.PrintLast Go.Proofs.YtedghbjmhcgilaaW.PrintMore
attribute [local go_sem] max2_int min2_int max_two min_two max_three min_three max_four min_four
set_option linter.unusedVariables false
set_option linter.unusedSimpArgs false
def cartouchelaw13_Lowered.f  : Option ((List (S35)) × (List (S35)) × (List (S37))) := some ((([(⟨1, 0, 0, 0, 0⟩ : S35), (⟨2, 8, 5, 0, 0⟩ : S35), (⟨5, 2, 0, 0, 0⟩ : S35), (⟨7, 1, 0, 0, 0⟩ : S35), (⟨4, 0, 0, 0, 0⟩ : S35), (⟨2, 16, 9, 0, 0⟩ : S35), (⟨5, 4, 0, 0, 0⟩ : S35), (⟨8, 2, 0, 0, 0⟩ : S35), (⟨4, 0, 0, 0, 0⟩ : S35), (⟨2, 18, 12, 0, 0⟩ : S35), (⟨11, 2, 4, 0, 0⟩ : S35), (⟨4, 0, 0, 0, 0⟩ : S35), (⟨2, 26, 15, 0, 0⟩ : S35), (⟨10, 3, 1, 0, 0⟩ : S35), (⟨4, 0, 0, 0, 0⟩ : S35), (⟨13, 0, 0, 0, 0⟩ : S35), (⟨4, 0, 0, 0, 0⟩ : S35)] : List (S35))), (([(⟨16, 1, 3, 2, 0⟩ : S35), (⟨17, 8, 0, 0, 0⟩ : S35), (⟨18, 2, 0, 0, 0⟩ : S35), (⟨16, 2, 5, 0, 0⟩ : S35), (⟨21, 18, 4, 0, 0⟩ : S35), (⟨16, 3, 8, 0, 0⟩ : S35), (⟨17, 26, 0, 0, 0⟩ : S35), (⟨19, 1, 0, 0, 0⟩ : S35), (⟨23, 0, 0, 0, 0⟩ : S35), (⟨24, 0, 0, 0, 0⟩ : S35)] : List (S35))), ([] : List (S37)))
set_option maxHeartbeats 8000000 in
set_option maxRecDepth 100000 in
theorem cartouchelaw13_Lowered.calls  (r1 : List (S35)) (r2 : List (S35)) (r3 : List (S37)) (w : World) (h : cartouchelaw13_Lowered.f  = some (r1, r2, r3)) :
  Calls Try.prog 21 #[] w fun e w' => ∃ v0_ v1_ v2_ : Value, e = .returned (.agg #[v0_, v1_, v2_]) ∧ Kd.R k35 35 w' w.heap.size (fun k_ => some k_ ≠ (v1_ : Value).ownBlock) v0_ r1 ∧ Kd.R k35 35 w' w.heap.size (fun k_ => some k_ ≠ (v0_ : Value).ownBlock) v1_ r2 ∧ Kd.R k37 37 w' w.heap.size (fun _ => True) v2_ r3 ∧ Below w.heap.size w w' := by
 have hu30 := Try.underlying30
 have hu35 := Try.underlying35
 have HB := Aside0.mk (Below.refl w.heap.size w)
 have H : (some ((([(⟨1, 0, 0, 0, 0⟩ : S35), (⟨2, 8, 5, 0, 0⟩ : S35), (⟨5, 2, 0, 0, 0⟩ : S35), (⟨7, 1, 0, 0, 0⟩ : S35), (⟨4, 0, 0, 0, 0⟩ : S35), (⟨2, 16, 9, 0, 0⟩ : S35), (⟨5, 4, 0, 0, 0⟩ : S35), (⟨8, 2, 0, 0, 0⟩ : S35), (⟨4, 0, 0, 0, 0⟩ : S35), (⟨2, 18, 12, 0, 0⟩ : S35), (⟨11, 2, 4, 0, 0⟩ : S35), (⟨4, 0, 0, 0, 0⟩ : S35), (⟨2, 26, 15, 0, 0⟩ : S35), (⟨10, 3, 1, 0, 0⟩ : S35), (⟨4, 0, 0, 0, 0⟩ : S35), (⟨13, 0, 0, 0, 0⟩ : S35), (⟨4, 0, 0, 0, 0⟩ : S35)] : List (S35))), (([(⟨16, 1, 3, 2, 0⟩ : S35), (⟨17, 8, 0, 0, 0⟩ : S35), (⟨18, 2, 0, 0, 0⟩ : S35), (⟨16, 2, 5, 0, 0⟩ : S35), (⟨21, 18, 4, 0, 0⟩ : S35), (⟨16, 3, 8, 0, 0⟩ : S35), (⟨17, 26, 0, 0, 0⟩ : S35), (⟨19, 1, 0, 0, 0⟩ : S35), (⟨23, 0, 0, 0, 0⟩ : S35), (⟨24, 0, 0, 0, 0⟩ : S35)] : List (S35))), ([] : List (S37)))) = some (r1, r2, r3) := h
 clear h
 obtain ⟨y180, hy180⟩ : ∃ y_ : List (S35), y_ = (([(⟨1, 0, 0, 0, 0⟩ : S35), (⟨2, 8, 5, 0, 0⟩ : S35), (⟨5, 2, 0, 0, 0⟩ : S35), (⟨7, 1, 0, 0, 0⟩ : S35), (⟨4, 0, 0, 0, 0⟩ : S35), (⟨2, 16, 9, 0, 0⟩ : S35), (⟨5, 4, 0, 0, 0⟩ : S35), (⟨8, 2, 0, 0, 0⟩ : S35), (⟨4, 0, 0, 0, 0⟩ : S35), (⟨2, 18, 12, 0, 0⟩ : S35), (⟨11, 2, 4, 0, 0⟩ : S35), (⟨4, 0, 0, 0, 0⟩ : S35), (⟨2, 26, 15, 0, 0⟩ : S35), (⟨10, 3, 1, 0, 0⟩ : S35), (⟨4, 0, 0, 0, 0⟩ : S35), (⟨13, 0, 0, 0, 0⟩ : S35), (⟨4, 0, 0, 0, 0⟩ : S35)] : List (S35))) := ⟨_, rfl⟩
 replace H : (some (y180, (([(⟨16, 1, 3, 2, 0⟩ : S35), (⟨17, 8, 0, 0, 0⟩ : S35), (⟨18, 2, 0, 0, 0⟩ : S35), (⟨16, 2, 5, 0, 0⟩ : S35), (⟨21, 18, 4, 0, 0⟩ : S35), (⟨16, 3, 8, 0, 0⟩ : S35), (⟨17, 26, 0, 0, 0⟩ : S35), (⟨19, 1, 0, 0, 0⟩ : S35), (⟨23, 0, 0, 0, 0⟩ : S35), (⟨24, 0, 0, 0, 0⟩ : S35)] : List (S35))), ([] : List (S37)))) = some (r1, r2, r3) := by first | (rw [hy180]; with_reducible exact H) | (have H2_ := (Option.bind_some _ _).symm.trans H; rw [hy180]; with_reducible exact H2_) | (have H2_ := (Option.bind_some _ _).symm.trans H; with_reducible exact H2_) | with_reducible exact H | (rw [hy180]; exact H) | exact H
 have Ny180 := Aside0.mk hy180
 clear hy180
 obtain ⟨y183, hy183⟩ : ∃ y_ : List (S35), y_ = (([(⟨16, 1, 3, 2, 0⟩ : S35), (⟨17, 8, 0, 0, 0⟩ : S35), (⟨18, 2, 0, 0, 0⟩ : S35), (⟨16, 2, 5, 0, 0⟩ : S35), (⟨21, 18, 4, 0, 0⟩ : S35), (⟨16, 3, 8, 0, 0⟩ : S35), (⟨17, 26, 0, 0, 0⟩ : S35), (⟨19, 1, 0, 0, 0⟩ : S35), (⟨23, 0, 0, 0, 0⟩ : S35), (⟨24, 0, 0, 0, 0⟩ : S35)] : List (S35))) := ⟨_, rfl⟩
 replace H : (some (y180, y183, ([] : List (S37)))) = some (r1, r2, r3) := by first | (rw [hy183]; with_reducible exact H) | (have H2_ := (Option.bind_some _ _).symm.trans H; rw [hy183]; with_reducible exact H2_) | (have H2_ := (Option.bind_some _ _).symm.trans H; with_reducible exact H2_) | with_reducible exact H | (rw [hy183]; exact H) | exact H
 have Ny183 := Aside0.mk hy183
 clear hy183
 simp only [Option.some.injEq, Prod.mk.injEq] at H
 obtain ⟨rfl, rfl, rfl⟩ := H
 go_enter Try.func21, Try.ntmps21
 go_wp2_with (first | ((with_reducible refine gate_dst (N := 0) rfl ?_); refine box_event ?hg (N := 0) ?hd (cs := #[.slice none 0 0, .slice none 0 0, .slice none 0 0]) (t := 30) ?hr ?_; (case hd => rfl); (case hg => rfl); (case hr => first | (go_simp; done) | (go_simp; rfl)); intro gb179 hg w1 hbox hb; have n0_ := Aside0.mk (below_step (by repeat (first | (with_reducible first | exact HB.out | apply below_alloc | apply pw_below_drewN | apply below_drew1) | exact HB.out)) hb); have n1_ := Aside0.mk (hbox); have n2_ := Aside0.mk ((by rw [hg]; exact (below_size (by repeat (first | (with_reducible first | exact HB.out | apply below_alloc | apply pw_below_drewN | apply below_drew1) | exact HB.out))) : w.heap.size ≤ gb179)); have n3_ := Aside0.mk ((by rw [hg]; exact (below_size (by repeat (first | (with_reducible first | exact HB.out | apply below_alloc | apply pw_below_drewN | apply below_drew1) | exact HB.out))) : w.heap.size ≤ gb179)); clear HB; have HB := n0_; have BK179 := n1_; have GW179 := n2_; have GE179 := n3_; clear n0_ n1_ n2_ n3_; clear hb hbox hg) | ((with_reducible refine gate_dst (N := 18) rfl ?_); refine Kd.R_lit k35 _ 35 ?hg (N := 18) ?hd (xs := ([(⟨1, 0, 0, 0, 0⟩ : S35), (⟨2, 8, 5, 0, 0⟩ : S35), (⟨5, 2, 0, 0, 0⟩ : S35), (⟨7, 1, 0, 0, 0⟩ : S35), (⟨4, 0, 0, 0, 0⟩ : S35), (⟨2, 16, 9, 0, 0⟩ : S35), (⟨5, 4, 0, 0, 0⟩ : S35), (⟨8, 2, 0, 0, 0⟩ : S35), (⟨4, 0, 0, 0, 0⟩ : S35), (⟨2, 18, 12, 0, 0⟩ : S35), (⟨11, 2, 4, 0, 0⟩ : S35), (⟨4, 0, 0, 0, 0⟩ : S35), (⟨2, 26, 15, 0, 0⟩ : S35), (⟨10, 3, 1, 0, 0⟩ : S35), (⟨4, 0, 0, 0, 0⟩ : S35), (⟨13, 0, 0, 0, 0⟩ : S35), (⟨4, 0, 0, 0, 0⟩ : S35)] : List (S35))) (inner := [.int .i64 1, .int .i64 0, .int .i64 0, .int .i64 0, .int .i64 0, .int .i64 2, .int .i64 8, .int .i64 5, .int .i64 0, .int .i64 0, .int .i64 5, .int .i64 2, .int .i64 0, .int .i64 0, .int .i64 0, .int .i64 7, .int .i64 1, .int .i64 0, .int .i64 0, .int .i64 0, .int .i64 4, .int .i64 0, .int .i64 0, .int .i64 0, .int .i64 0, .int .i64 2, .int .i64 16, .int .i64 9, .int .i64 0, .int .i64 0, .int .i64 5, .int .i64 4, .int .i64 0, .int .i64 0, .int .i64 0, .int .i64 8, .int .i64 2, .int .i64 0, .int .i64 0, .int .i64 0, .int .i64 4, .int .i64 0, .int .i64 0, .int .i64 0, .int .i64 0, .int .i64 2, .int .i64 18, .int .i64 12, .int .i64 0, .int .i64 0, .int .i64 11, .int .i64 2, .int .i64 4, .int .i64 0, .int .i64 0, .int .i64 4, .int .i64 0, .int .i64 0, .int .i64 0, .int .i64 0, .int .i64 2, .int .i64 26, .int .i64 15, .int .i64 0, .int .i64 0, .int .i64 10, .int .i64 3, .int .i64 1, .int .i64 0, .int .i64 0, .int .i64 4, .int .i64 0, .int .i64 0, .int .i64 0, .int .i64 0, .int .i64 13, .int .i64 0, .int .i64 0, .int .i64 0, .int .i64 0, .int .i64 4, .int .i64 0, .int .i64 0, .int .i64 0, .int .i64 0]) (ok := fun _ => True) (okp := fun _ => True) ?hr ?hp (fun _ hk => hk) trivial (Below.refl _ _) (Nat.le_refl _) (by simp) ?_; (case hd => rfl); (case hg => rfl); (case hr => first | (go_simp; done) | (go_simp; rfl)); (case hp => exact (Reps.c5 (show Kd.M k35 _ _ _ (⟨1, 0, 0, 0, 0⟩ : S35) [.int .i64 1, .int .i64 0, .int .i64 0, .int .i64 0, .int .i64 0] from (k35_mkM _ _ _ (⟨1, 0, 0, 0, 0⟩ : S35) )) (Reps.c5 (show Kd.M k35 _ _ _ (⟨2, 8, 5, 0, 0⟩ : S35) [.int .i64 2, .int .i64 8, .int .i64 5, .int .i64 0, .int .i64 0] from (k35_mkM _ _ _ (⟨2, 8, 5, 0, 0⟩ : S35) )) (Reps.c5 (show Kd.M k35 _ _ _ (⟨5, 2, 0, 0, 0⟩ : S35) [.int .i64 5, .int .i64 2, .int .i64 0, .int .i64 0, .int .i64 0] from (k35_mkM _ _ _ (⟨5, 2, 0, 0, 0⟩ : S35) )) (Reps.c5 (show Kd.M k35 _ _ _ (⟨7, 1, 0, 0, 0⟩ : S35) [.int .i64 7, .int .i64 1, .int .i64 0, .int .i64 0, .int .i64 0] from (k35_mkM _ _ _ (⟨7, 1, 0, 0, 0⟩ : S35) )) (Reps.c5 (show Kd.M k35 _ _ _ (⟨4, 0, 0, 0, 0⟩ : S35) [.int .i64 4, .int .i64 0, .int .i64 0, .int .i64 0, .int .i64 0] from (k35_mkM _ _ _ (⟨4, 0, 0, 0, 0⟩ : S35) )) (Reps.c5 (show Kd.M k35 _ _ _ (⟨2, 16, 9, 0, 0⟩ : S35) [.int .i64 2, .int .i64 16, .int .i64 9, .int .i64 0, .int .i64 0] from (k35_mkM _ _ _ (⟨2, 16, 9, 0, 0⟩ : S35) )) (Reps.c5 (show Kd.M k35 _ _ _ (⟨5, 4, 0, 0, 0⟩ : S35) [.int .i64 5, .int .i64 4, .int .i64 0, .int .i64 0, .int .i64 0] from (k35_mkM _ _ _ (⟨5, 4, 0, 0, 0⟩ : S35) )) (Reps.c5 (show Kd.M k35 _ _ _ (⟨8, 2, 0, 0, 0⟩ : S35) [.int .i64 8, .int .i64 2, .int .i64 0, .int .i64 0, .int .i64 0] from (k35_mkM _ _ _ (⟨8, 2, 0, 0, 0⟩ : S35) )) (Reps.c5 (show Kd.M k35 _ _ _ (⟨4, 0, 0, 0, 0⟩ : S35) [.int .i64 4, .int .i64 0, .int .i64 0, .int .i64 0, .int .i64 0] from (k35_mkM _ _ _ (⟨4, 0, 0, 0, 0⟩ : S35) )) (Reps.c5 (show Kd.M k35 _ _ _ (⟨2, 18, 12, 0, 0⟩ : S35) [.int .i64 2, .int .i64 18, .int .i64 12, .int .i64 0, .int .i64 0] from (k35_mkM _ _ _ (⟨2, 18, 12, 0, 0⟩ : S35) )) (Reps.c5 (show Kd.M k35 _ _ _ (⟨11, 2, 4, 0, 0⟩ : S35) [.int .i64 11, .int .i64 2, .int .i64 4, .int .i64 0, .int .i64 0] from (k35_mkM _ _ _ (⟨11, 2, 4, 0, 0⟩ : S35) )) (Reps.c5 (show Kd.M k35 _ _ _ (⟨4, 0, 0, 0, 0⟩ : S35) [.int .i64 4, .int .i64 0, .int .i64 0, .int .i64 0, .int .i64 0] from (k35_mkM _ _ _ (⟨4, 0, 0, 0, 0⟩ : S35) )) (Reps.c5 (show Kd.M k35 _ _ _ (⟨2, 26, 15, 0, 0⟩ : S35) [.int .i64 2, .int .i64 26, .int .i64 15, .int .i64 0, .int .i64 0] from (k35_mkM _ _ _ (⟨2, 26, 15, 0, 0⟩ : S35) )) (Reps.c5 (show Kd.M k35 _ _ _ (⟨10, 3, 1, 0, 0⟩ : S35) [.int .i64 10, .int .i64 3, .int .i64 1, .int .i64 0, .int .i64 0] from (k35_mkM _ _ _ (⟨10, 3, 1, 0, 0⟩ : S35) )) (Reps.c5 (show Kd.M k35 _ _ _ (⟨4, 0, 0, 0, 0⟩ : S35) [.int .i64 4, .int .i64 0, .int .i64 0, .int .i64 0, .int .i64 0] from (k35_mkM _ _ _ (⟨4, 0, 0, 0, 0⟩ : S35) )) (Reps.c5 (show Kd.M k35 _ _ _ (⟨13, 0, 0, 0, 0⟩ : S35) [.int .i64 13, .int .i64 0, .int .i64 0, .int .i64 0, .int .i64 0] from (k35_mkM _ _ _ (⟨13, 0, 0, 0, 0⟩ : S35) )) (Reps.c5 (show Kd.M k35 _ _ _ (⟨4, 0, 0, 0, 0⟩ : S35) [.int .i64 4, .int .i64 0, .int .i64 0, .int .i64 0, .int .i64 0] from (k35_mkM _ _ _ (⟨4, 0, 0, 0, 0⟩ : S35) )) (Reps.none _ _))))))))))))))))))); intro v181 w2 ho3 hb hg_ hnew_; clear hg_ hnew_; (first | rw [← Ny180.out] at ho3 | (simp only [Int.reduceToNat] at ho3; rw [← Ny180.out] at ho3)); have n0_ := Aside0.mk (Kd.R_lower ho3 (below_size (by repeat (first | (with_reducible first | exact HB.out | apply below_alloc | apply pw_below_drewN | apply below_drew1 | refine below_set ?_ GE179.out) | exact HB.out)))); have n1_ := Aside0.mk (blk_below (g := gb179) (o := .cells #[.slice none 0 0, .slice none 0 0, .slice none 0 0] 30 (0, 0)) (by (with_reducible repeat (first | refine blk_drewN ?_ _ | refine blk_drew ?_ | refine blk_alloc ?_ _)); exact BK179.out) hb); have n2_ := Aside0.mk (below_step (by repeat (first | (with_reducible first | exact HB.out | apply below_alloc | apply pw_below_drewN | apply below_drew1 | refine below_set ?_ GE179.out) | exact HB.out)) hb); clear BK179; clear HB; have HO182 := n0_; have BK179 := n1_; have HB := n2_; clear n0_ n1_ n2_; clear hb ho3) | ((with_reducible refine gate_dst (N := 29) rfl ?_); refine Kd.R_lit k35 _ 35 ?hg (N := 29) ?hd (xs := ([(⟨16, 1, 3, 2, 0⟩ : S35), (⟨17, 8, 0, 0, 0⟩ : S35), (⟨18, 2, 0, 0, 0⟩ : S35), (⟨16, 2, 5, 0, 0⟩ : S35), (⟨21, 18, 4, 0, 0⟩ : S35), (⟨16, 3, 8, 0, 0⟩ : S35), (⟨17, 26, 0, 0, 0⟩ : S35), (⟨19, 1, 0, 0, 0⟩ : S35), (⟨23, 0, 0, 0, 0⟩ : S35), (⟨24, 0, 0, 0, 0⟩ : S35)] : List (S35))) (inner := [.int .i64 16, .int .i64 1, .int .i64 3, .int .i64 2, .int .i64 0, .int .i64 17, .int .i64 8, .int .i64 0, .int .i64 0, .int .i64 0, .int .i64 18, .int .i64 2, .int .i64 0, .int .i64 0, .int .i64 0, .int .i64 16, .int .i64 2, .int .i64 5, .int .i64 0, .int .i64 0, .int .i64 21, .int .i64 18, .int .i64 4, .int .i64 0, .int .i64 0, .int .i64 16, .int .i64 3, .int .i64 8, .int .i64 0, .int .i64 0, .int .i64 17, .int .i64 26, .int .i64 0, .int .i64 0, .int .i64 0, .int .i64 19, .int .i64 1, .int .i64 0, .int .i64 0, .int .i64 0, .int .i64 23, .int .i64 0, .int .i64 0, .int .i64 0, .int .i64 0, .int .i64 24, .int .i64 0, .int .i64 0, .int .i64 0, .int .i64 0]) (ok := fun _ => True) (okp := fun _ => True) ?hr ?hp (fun _ hk => hk) trivial (Below.refl _ _) (Nat.le_refl _) (by simp) ?_; (case hd => rfl); (case hg => rfl); (case hr => first | (go_simp; done) | (go_simp; rfl)); (case hp => exact (Reps.c5 (show Kd.M k35 _ _ _ (⟨16, 1, 3, 2, 0⟩ : S35) [.int .i64 16, .int .i64 1, .int .i64 3, .int .i64 2, .int .i64 0] from (k35_mkM _ _ _ (⟨16, 1, 3, 2, 0⟩ : S35) )) (Reps.c5 (show Kd.M k35 _ _ _ (⟨17, 8, 0, 0, 0⟩ : S35) [.int .i64 17, .int .i64 8, .int .i64 0, .int .i64 0, .int .i64 0] from (k35_mkM _ _ _ (⟨17, 8, 0, 0, 0⟩ : S35) )) (Reps.c5 (show Kd.M k35 _ _ _ (⟨18, 2, 0, 0, 0⟩ : S35) [.int .i64 18, .int .i64 2, .int .i64 0, .int .i64 0, .int .i64 0] from (k35_mkM _ _ _ (⟨18, 2, 0, 0, 0⟩ : S35) )) (Reps.c5 (show Kd.M k35 _ _ _ (⟨16, 2, 5, 0, 0⟩ : S35) [.int .i64 16, .int .i64 2, .int .i64 5, .int .i64 0, .int .i64 0] from (k35_mkM _ _ _ (⟨16, 2, 5, 0, 0⟩ : S35) )) (Reps.c5 (show Kd.M k35 _ _ _ (⟨21, 18, 4, 0, 0⟩ : S35) [.int .i64 21, .int .i64 18, .int .i64 4, .int .i64 0, .int .i64 0] from (k35_mkM _ _ _ (⟨21, 18, 4, 0, 0⟩ : S35) )) (Reps.c5 (show Kd.M k35 _ _ _ (⟨16, 3, 8, 0, 0⟩ : S35) [.int .i64 16, .int .i64 3, .int .i64 8, .int .i64 0, .int .i64 0] from (k35_mkM _ _ _ (⟨16, 3, 8, 0, 0⟩ : S35) )) (Reps.c5 (show Kd.M k35 _ _ _ (⟨17, 26, 0, 0, 0⟩ : S35) [.int .i64 17, .int .i64 26, .int .i64 0, .int .i64 0, .int .i64 0] from (k35_mkM _ _ _ (⟨17, 26, 0, 0, 0⟩ : S35) )) (Reps.c5 (show Kd.M k35 _ _ _ (⟨19, 1, 0, 0, 0⟩ : S35) [.int .i64 19, .int .i64 1, .int .i64 0, .int .i64 0, .int .i64 0] from (k35_mkM _ _ _ (⟨19, 1, 0, 0, 0⟩ : S35) )) (Reps.c5 (show Kd.M k35 _ _ _ (⟨23, 0, 0, 0, 0⟩ : S35) [.int .i64 23, .int .i64 0, .int .i64 0, .int .i64 0, .int .i64 0] from (k35_mkM _ _ _ (⟨23, 0, 0, 0, 0⟩ : S35) )) (Reps.c5 (show Kd.M k35 _ _ _ (⟨24, 0, 0, 0, 0⟩ : S35) [.int .i64 24, .int .i64 0, .int .i64 0, .int .i64 0, .int .i64 0] from (k35_mkM _ _ _ (⟨24, 0, 0, 0, 0⟩ : S35) )) (Reps.none _ _)))))))))))); intro v184 w4 ho5 hb hg_ hnew_; clear hg_ hnew_; (first | rw [← Ny183.out] at ho5 | (simp only [Int.reduceToNat] at ho5; rw [← Ny183.out] at ho5)); have n0_ := Aside0.mk (Kd.R_elder' (by (with_reducible repeat (first | apply Kd.R_alloc | apply Kd.R_drewN | apply Kd.R_drew)); exact HO182.out) (Kd.R_base ho5) hb); have n1_ := Aside0.mk (Kd.R_lower (Kd.R_new' ho5 (Kd.R_lt (by (with_reducible repeat (first | apply Kd.R_alloc | apply Kd.R_drewN | apply Kd.R_drew)); exact HO182.out))) (below_size (by repeat (first | (with_reducible first | exact HB.out | apply below_alloc | apply pw_below_drewN | apply below_drew1 | refine below_set ?_ GE179.out) | exact HB.out)))); have n2_ := Aside0.mk (blk_below (g := gb179) (o := .cells #[.slice none 0 0, .slice none 0 0, .slice none 0 0] 30 (0, 0)) (by (with_reducible repeat (first | refine blk_drewN ?_ _ | refine blk_drew ?_ | refine blk_alloc ?_ _)); exact BK179.out) hb); have n3_ := Aside0.mk (below_step (by repeat (first | (with_reducible first | exact HB.out | apply below_alloc | apply pw_below_drewN | apply below_drew1 | refine below_set ?_ GE179.out) | exact HB.out)) hb); clear HO182; clear BK179; clear HB; have HO182 := n0_; have HO185 := n1_; have BK179 := n2_; have HB := n3_; clear n0_ n1_ n2_ n3_; clear hb ho5; obtain ⟨Ao6, co6, eo6⟩ := Kd.R_slice HO185.out; subst eo6; obtain ⟨Ao7, co7, eo7⟩ := Kd.R_slice HO182.out; subst eo7; have hcz8_0 : w4.cell? ⟨gb179, 0, none⟩ = some (.slice none 0 0) := (blk_cell BK179.out 0).trans rfl; have hcz8_1 : w4.cell? ⟨gb179, 1, none⟩ = some (.slice none 0 0) := (blk_cell BK179.out 1).trans rfl; have hcz8_2 : w4.cell? ⟨gb179, 2, none⟩ = some (.slice none 0 0) := (blk_cell BK179.out 2).trans rfl; have hfz8_0 := blk_frozen BK179.out 0; have hfz8_1 := blk_frozen BK179.out 1; have hfz8_2 := blk_frozen BK179.out 2))
 refine bodyPost_ret (results_cell_row rfl _ _ gb179 30 #[.slice Ao7 y180.length co7, .slice Ao6 y183.length co6, .slice none 0 0] (0, 0) _ rfl (by (with_reducible repeat (first | refine blk_drewN ?_ _ | refine blk_drew ?_ | refine blk_alloc ?_ _)); refine blk_put (cs := #[.slice Ao7 y180.length co7, .slice Ao6 y183.length co6, .slice none 0 0]) ?_ 2 _ rfl; (with_reducible repeat (first | refine blk_drewN ?_ _ | refine blk_drew ?_ | refine blk_alloc ?_ _)); refine blk_put (cs := #[.slice Ao7 y180.length co7, .slice none 0 0, .slice none 0 0]) ?_ 1 _ rfl; (with_reducible repeat (first | refine blk_drewN ?_ _ | refine blk_drew ?_ | refine blk_alloc ?_ _)); refine blk_put (cs := #[.slice none 0 0, .slice none 0 0, .slice none 0 0]) ?_ 0 _ rfl; (with_reducible repeat (first | refine blk_drewN ?_ _ | refine blk_drew ?_ | refine blk_alloc ?_ _)); exact BK179.out) Try.underlying30 rfl (by kernel_rfl)) rfl ?_
 exact ⟨_, _, _, by first | rfl | (simp [errW_none, errW_some] <;> rfl) | (simp [*, errW_none, errW_some] <;> rfl), by (with_reducible repeat (first | apply Kd.R_alloc | apply Kd.R_drewN | apply Kd.R_drew)); exact Kd.R_mono (Kd.R_far (p := ⟨gb179, 2, none⟩) (Kd.R_far (p := ⟨gb179, 1, none⟩) (Kd.R_far (p := ⟨gb179, 0, none⟩) (Kd.R_types HO182.out BK179.out (by decide)) (fun _ hk => hk.2) (.slice Ao7 y180.length co7)) (fun _ hk => hk.2) (.slice Ao6 y183.length co6)) (fun _ hk => hk.2) (.slice none 0 0)) (fun _ hk => hk.1.2), by (with_reducible repeat (first | apply Kd.R_alloc | apply Kd.R_drewN | apply Kd.R_drew)); exact Kd.R_mono (Kd.R_far (p := ⟨gb179, 2, none⟩) (Kd.R_far (p := ⟨gb179, 1, none⟩) (Kd.R_far (p := ⟨gb179, 0, none⟩) (Kd.R_types HO185.out BK179.out (by decide)) (fun _ hk => hk.2) (.slice Ao7 y180.length co7)) (fun _ hk => hk.2) (.slice Ao6 y183.length co6)) (fun _ hk => hk.2) (.slice none 0 0)) (fun _ hk => hk.1.2), by first | exact Kd.R_nil _ _ _ _ _ | exact Kd.N_nil _ _ _ _ _ | exact Kd.V_nil _ _ _ _ _ | exact Kd.Q_nil _ _ _ _ _ | exact Kd.S_nil _ _ _ _ _, by repeat (first | (with_reducible first | exact HB.out | apply below_alloc | apply pw_below_drewN | apply below_drew1 | refine below_set ?_ GE179.out) | exact HB.out)⟩
end Go.Proofs.Ytedghbjmhcgilaa.POpt
end
section
namespace Go.Proofs.Ytedghbjmhcgilaa.POpt
open Go.RowKit Go.Proofs.YtedghbjmhcgilaaW.PrintWords Go.Proofs.YtedghbjmhcgilaaW.PrintLast Go.Proofs.YtedghbjmhcgilaaW.PrintMore
attribute [local go_sem] max2_int min2_int max_two min_two max_three min_three max_four min_four
set_option linter.unusedVariables false
set_option linter.unusedSimpArgs false
def cartouchelaw14_Better.f  : Option ((List (S35)) × (List (S35)) × (List (S37))) := some ((([(⟨1, 0, 0, 0, 0⟩ : S35), (⟨3, 10, 0, 0, 0⟩ : S35), (⟨14, 2, 1, 0, 0⟩ : S35), (⟨4, 0, 0, 0, 0⟩ : S35), (⟨15, 4, 2, 0, 0⟩ : S35), (⟨4, 0, 0, 0, 0⟩ : S35), (⟨11, 2, 4, 0, 0⟩ : S35), (⟨4, 0, 0, 0, 0⟩ : S35), (⟨10, 3, 1, 0, 0⟩ : S35), (⟨4, 0, 0, 0, 0⟩ : S35), (⟨13, 0, 0, 0, 0⟩ : S35), (⟨4, 0, 0, 0, 0⟩ : S35)] : List (S35))), (([(⟨16, 1, 2, 2, 0⟩ : S35), (⟨25, 8, 2, 0, 0⟩ : S35), (⟨16, 2, 4, 0, 0⟩ : S35), (⟨21, 18, 4, 0, 0⟩ : S35), (⟨16, 3, 7, 0, 0⟩ : S35), (⟨17, 26, 0, 0, 0⟩ : S35), (⟨19, 1, 0, 0, 0⟩ : S35), (⟨23, 0, 0, 0, 0⟩ : S35), (⟨24, 0, 0, 0, 0⟩ : S35)] : List (S35))), (([(⟨8, 2⟩ : S37), (⟨16, 4⟩ : S37), (⟨18, 6⟩ : S37), (⟨26, 8⟩ : S37)] : List (S37))))
set_option maxHeartbeats 8000000 in
set_option maxRecDepth 100000 in
theorem cartouchelaw14_Better.calls  (r1 : List (S35)) (r2 : List (S35)) (r3 : List (S37)) (w : World) (h : cartouchelaw14_Better.f  = some (r1, r2, r3)) :
  Calls Try.prog 23 #[] w fun e w' => ∃ v0_ v1_ v2_ : Value, e = .returned (.agg #[v0_, v1_, v2_]) ∧ Kd.R k35 35 w' w.heap.size (fun k_ => some k_ ≠ (v1_ : Value).ownBlock) v0_ r1 ∧ Kd.R k35 35 w' w.heap.size (fun k_ => some k_ ≠ (v0_ : Value).ownBlock) v1_ r2 ∧ Kd.R k37 37 w' w.heap.size (fun _ => True) v2_ r3 ∧ Below w.heap.size w w' := by
 have hu30 := Try.underlying30
 have hu35 := Try.underlying35
 have hu37 := Try.underlying37
 have HB := Aside0.mk (Below.refl w.heap.size w)
 have H : (some ((([(⟨1, 0, 0, 0, 0⟩ : S35), (⟨3, 10, 0, 0, 0⟩ : S35), (⟨14, 2, 1, 0, 0⟩ : S35), (⟨4, 0, 0, 0, 0⟩ : S35), (⟨15, 4, 2, 0, 0⟩ : S35), (⟨4, 0, 0, 0, 0⟩ : S35), (⟨11, 2, 4, 0, 0⟩ : S35), (⟨4, 0, 0, 0, 0⟩ : S35), (⟨10, 3, 1, 0, 0⟩ : S35), (⟨4, 0, 0, 0, 0⟩ : S35), (⟨13, 0, 0, 0, 0⟩ : S35), (⟨4, 0, 0, 0, 0⟩ : S35)] : List (S35))), (([(⟨16, 1, 2, 2, 0⟩ : S35), (⟨25, 8, 2, 0, 0⟩ : S35), (⟨16, 2, 4, 0, 0⟩ : S35), (⟨21, 18, 4, 0, 0⟩ : S35), (⟨16, 3, 7, 0, 0⟩ : S35), (⟨17, 26, 0, 0, 0⟩ : S35), (⟨19, 1, 0, 0, 0⟩ : S35), (⟨23, 0, 0, 0, 0⟩ : S35), (⟨24, 0, 0, 0, 0⟩ : S35)] : List (S35))), (([(⟨8, 2⟩ : S37), (⟨16, 4⟩ : S37), (⟨18, 6⟩ : S37), (⟨26, 8⟩ : S37)] : List (S37))))) = some (r1, r2, r3) := h
 clear h
 obtain ⟨y187, hy187⟩ : ∃ y_ : List (S35), y_ = (([(⟨1, 0, 0, 0, 0⟩ : S35), (⟨3, 10, 0, 0, 0⟩ : S35), (⟨14, 2, 1, 0, 0⟩ : S35), (⟨4, 0, 0, 0, 0⟩ : S35), (⟨15, 4, 2, 0, 0⟩ : S35), (⟨4, 0, 0, 0, 0⟩ : S35), (⟨11, 2, 4, 0, 0⟩ : S35), (⟨4, 0, 0, 0, 0⟩ : S35), (⟨10, 3, 1, 0, 0⟩ : S35), (⟨4, 0, 0, 0, 0⟩ : S35), (⟨13, 0, 0, 0, 0⟩ : S35), (⟨4, 0, 0, 0, 0⟩ : S35)] : List (S35))) := ⟨_, rfl⟩
 replace H : (some (y187, (([(⟨16, 1, 2, 2, 0⟩ : S35), (⟨25, 8, 2, 0, 0⟩ : S35), (⟨16, 2, 4, 0, 0⟩ : S35), (⟨21, 18, 4, 0, 0⟩ : S35), (⟨16, 3, 7, 0, 0⟩ : S35), (⟨17, 26, 0, 0, 0⟩ : S35), (⟨19, 1, 0, 0, 0⟩ : S35), (⟨23, 0, 0, 0, 0⟩ : S35), (⟨24, 0, 0, 0, 0⟩ : S35)] : List (S35))), (([(⟨8, 2⟩ : S37), (⟨16, 4⟩ : S37), (⟨18, 6⟩ : S37), (⟨26, 8⟩ : S37)] : List (S37))))) = some (r1, r2, r3) := by first | (rw [hy187]; with_reducible exact H) | (have H2_ := (Option.bind_some _ _).symm.trans H; rw [hy187]; with_reducible exact H2_) | (have H2_ := (Option.bind_some _ _).symm.trans H; with_reducible exact H2_) | with_reducible exact H | (rw [hy187]; exact H) | exact H
 have Ny187 := Aside0.mk hy187
 clear hy187
 obtain ⟨y190, hy190⟩ : ∃ y_ : List (S35), y_ = (([(⟨16, 1, 2, 2, 0⟩ : S35), (⟨25, 8, 2, 0, 0⟩ : S35), (⟨16, 2, 4, 0, 0⟩ : S35), (⟨21, 18, 4, 0, 0⟩ : S35), (⟨16, 3, 7, 0, 0⟩ : S35), (⟨17, 26, 0, 0, 0⟩ : S35), (⟨19, 1, 0, 0, 0⟩ : S35), (⟨23, 0, 0, 0, 0⟩ : S35), (⟨24, 0, 0, 0, 0⟩ : S35)] : List (S35))) := ⟨_, rfl⟩
 replace H : (some (y187, y190, (([(⟨8, 2⟩ : S37), (⟨16, 4⟩ : S37), (⟨18, 6⟩ : S37), (⟨26, 8⟩ : S37)] : List (S37))))) = some (r1, r2, r3) := by first | (rw [hy190]; with_reducible exact H) | (have H2_ := (Option.bind_some _ _).symm.trans H; rw [hy190]; with_reducible exact H2_) | (have H2_ := (Option.bind_some _ _).symm.trans H; with_reducible exact H2_) | with_reducible exact H | (rw [hy190]; exact H) | exact H
 have Ny190 := Aside0.mk hy190
 clear hy190
 obtain ⟨y193, hy193⟩ : ∃ y_ : List (S37), y_ = (([(⟨8, 2⟩ : S37), (⟨16, 4⟩ : S37), (⟨18, 6⟩ : S37), (⟨26, 8⟩ : S37)] : List (S37))) := ⟨_, rfl⟩
 replace H : (some (y187, y190, y193)) = some (r1, r2, r3) := by first | (rw [hy193]; with_reducible exact H) | (have H2_ := (Option.bind_some _ _).symm.trans H; rw [hy193]; with_reducible exact H2_) | (have H2_ := (Option.bind_some _ _).symm.trans H; with_reducible exact H2_) | with_reducible exact H | (rw [hy193]; exact H) | exact H
 have Ny193 := Aside0.mk hy193
 clear hy193
 simp only [Option.some.injEq, Prod.mk.injEq] at H
 obtain ⟨rfl, rfl, rfl⟩ := H
 go_enter Try.func23, Try.ntmps23
 go_wp2_with (first | ((with_reducible refine gate_dst (N := 0) rfl ?_); refine box_event ?hg (N := 0) ?hd (cs := #[.slice none 0 0, .slice none 0 0, .slice none 0 0]) (t := 30) ?hr ?_; (case hd => rfl); (case hg => rfl); (case hr => first | (go_simp; done) | (go_simp; rfl)); intro gb186 hg w1 hbox hb; have n0_ := Aside0.mk (below_step (by repeat (first | (with_reducible first | exact HB.out | apply below_alloc | apply pw_below_drewN | apply below_drew1) | exact HB.out)) hb); have n1_ := Aside0.mk (hbox); have n2_ := Aside0.mk ((by rw [hg]; exact (below_size (by repeat (first | (with_reducible first | exact HB.out | apply below_alloc | apply pw_below_drewN | apply below_drew1) | exact HB.out))) : w.heap.size ≤ gb186)); have n3_ := Aside0.mk ((by rw [hg]; exact (below_size (by repeat (first | (with_reducible first | exact HB.out | apply below_alloc | apply pw_below_drewN | apply below_drew1) | exact HB.out))) : w.heap.size ≤ gb186)); clear HB; have HB := n0_; have BK186 := n1_; have GW186 := n2_; have GE186 := n3_; clear n0_ n1_ n2_ n3_; clear hb hbox hg) | ((with_reducible refine gate_dst (N := 13) rfl ?_); refine Kd.R_lit k35 _ 35 ?hg (N := 13) ?hd (xs := ([(⟨1, 0, 0, 0, 0⟩ : S35), (⟨3, 10, 0, 0, 0⟩ : S35), (⟨14, 2, 1, 0, 0⟩ : S35), (⟨4, 0, 0, 0, 0⟩ : S35), (⟨15, 4, 2, 0, 0⟩ : S35), (⟨4, 0, 0, 0, 0⟩ : S35), (⟨11, 2, 4, 0, 0⟩ : S35), (⟨4, 0, 0, 0, 0⟩ : S35), (⟨10, 3, 1, 0, 0⟩ : S35), (⟨4, 0, 0, 0, 0⟩ : S35), (⟨13, 0, 0, 0, 0⟩ : S35), (⟨4, 0, 0, 0, 0⟩ : S35)] : List (S35))) (inner := [.int .i64 1, .int .i64 0, .int .i64 0, .int .i64 0, .int .i64 0, .int .i64 3, .int .i64 10, .int .i64 0, .int .i64 0, .int .i64 0, .int .i64 14, .int .i64 2, .int .i64 1, .int .i64 0, .int .i64 0, .int .i64 4, .int .i64 0, .int .i64 0, .int .i64 0, .int .i64 0, .int .i64 15, .int .i64 4, .int .i64 2, .int .i64 0, .int .i64 0, .int .i64 4, .int .i64 0, .int .i64 0, .int .i64 0, .int .i64 0, .int .i64 11, .int .i64 2, .int .i64 4, .int .i64 0, .int .i64 0, .int .i64 4, .int .i64 0, .int .i64 0, .int .i64 0, .int .i64 0, .int .i64 10, .int .i64 3, .int .i64 1, .int .i64 0, .int .i64 0, .int .i64 4, .int .i64 0, .int .i64 0, .int .i64 0, .int .i64 0, .int .i64 13, .int .i64 0, .int .i64 0, .int .i64 0, .int .i64 0, .int .i64 4, .int .i64 0, .int .i64 0, .int .i64 0, .int .i64 0]) (ok := fun _ => True) (okp := fun _ => True) ?hr ?hp (fun _ hk => hk) trivial (Below.refl _ _) (Nat.le_refl _) (by simp) ?_; (case hd => rfl); (case hg => rfl); (case hr => first | (go_simp; done) | (go_simp; rfl)); (case hp => exact (Reps.c5 (show Kd.M k35 _ _ _ (⟨1, 0, 0, 0, 0⟩ : S35) [.int .i64 1, .int .i64 0, .int .i64 0, .int .i64 0, .int .i64 0] from (k35_mkM _ _ _ (⟨1, 0, 0, 0, 0⟩ : S35) )) (Reps.c5 (show Kd.M k35 _ _ _ (⟨3, 10, 0, 0, 0⟩ : S35) [.int .i64 3, .int .i64 10, .int .i64 0, .int .i64 0, .int .i64 0] from (k35_mkM _ _ _ (⟨3, 10, 0, 0, 0⟩ : S35) )) (Reps.c5 (show Kd.M k35 _ _ _ (⟨14, 2, 1, 0, 0⟩ : S35) [.int .i64 14, .int .i64 2, .int .i64 1, .int .i64 0, .int .i64 0] from (k35_mkM _ _ _ (⟨14, 2, 1, 0, 0⟩ : S35) )) (Reps.c5 (show Kd.M k35 _ _ _ (⟨4, 0, 0, 0, 0⟩ : S35) [.int .i64 4, .int .i64 0, .int .i64 0, .int .i64 0, .int .i64 0] from (k35_mkM _ _ _ (⟨4, 0, 0, 0, 0⟩ : S35) )) (Reps.c5 (show Kd.M k35 _ _ _ (⟨15, 4, 2, 0, 0⟩ : S35) [.int .i64 15, .int .i64 4, .int .i64 2, .int .i64 0, .int .i64 0] from (k35_mkM _ _ _ (⟨15, 4, 2, 0, 0⟩ : S35) )) (Reps.c5 (show Kd.M k35 _ _ _ (⟨4, 0, 0, 0, 0⟩ : S35) [.int .i64 4, .int .i64 0, .int .i64 0, .int .i64 0, .int .i64 0] from (k35_mkM _ _ _ (⟨4, 0, 0, 0, 0⟩ : S35) )) (Reps.c5 (show Kd.M k35 _ _ _ (⟨11, 2, 4, 0, 0⟩ : S35) [.int .i64 11, .int .i64 2, .int .i64 4, .int .i64 0, .int .i64 0] from (k35_mkM _ _ _ (⟨11, 2, 4, 0, 0⟩ : S35) )) (Reps.c5 (show Kd.M k35 _ _ _ (⟨4, 0, 0, 0, 0⟩ : S35) [.int .i64 4, .int .i64 0, .int .i64 0, .int .i64 0, .int .i64 0] from (k35_mkM _ _ _ (⟨4, 0, 0, 0, 0⟩ : S35) )) (Reps.c5 (show Kd.M k35 _ _ _ (⟨10, 3, 1, 0, 0⟩ : S35) [.int .i64 10, .int .i64 3, .int .i64 1, .int .i64 0, .int .i64 0] from (k35_mkM _ _ _ (⟨10, 3, 1, 0, 0⟩ : S35) )) (Reps.c5 (show Kd.M k35 _ _ _ (⟨4, 0, 0, 0, 0⟩ : S35) [.int .i64 4, .int .i64 0, .int .i64 0, .int .i64 0, .int .i64 0] from (k35_mkM _ _ _ (⟨4, 0, 0, 0, 0⟩ : S35) )) (Reps.c5 (show Kd.M k35 _ _ _ (⟨13, 0, 0, 0, 0⟩ : S35) [.int .i64 13, .int .i64 0, .int .i64 0, .int .i64 0, .int .i64 0] from (k35_mkM _ _ _ (⟨13, 0, 0, 0, 0⟩ : S35) )) (Reps.c5 (show Kd.M k35 _ _ _ (⟨4, 0, 0, 0, 0⟩ : S35) [.int .i64 4, .int .i64 0, .int .i64 0, .int .i64 0, .int .i64 0] from (k35_mkM _ _ _ (⟨4, 0, 0, 0, 0⟩ : S35) )) (Reps.none _ _)))))))))))))); intro v188 w2 ho3 hb hg_ hnew_; clear hg_ hnew_; (first | rw [← Ny187.out] at ho3 | (simp only [Int.reduceToNat] at ho3; rw [← Ny187.out] at ho3)); have n0_ := Aside0.mk (Kd.R_lower ho3 (below_size (by repeat (first | (with_reducible first | exact HB.out | apply below_alloc | apply pw_below_drewN | apply below_drew1 | refine below_set ?_ GE186.out) | exact HB.out)))); have n1_ := Aside0.mk (blk_below (g := gb186) (o := .cells #[.slice none 0 0, .slice none 0 0, .slice none 0 0] 30 (0, 0)) (by (with_reducible repeat (first | refine blk_drewN ?_ _ | refine blk_drew ?_ | refine blk_alloc ?_ _)); exact BK186.out) hb); have n2_ := Aside0.mk (below_step (by repeat (first | (with_reducible first | exact HB.out | apply below_alloc | apply pw_below_drewN | apply below_drew1 | refine below_set ?_ GE186.out) | exact HB.out)) hb); clear BK186; clear HB; have HO189 := n0_; have BK186 := n1_; have HB := n2_; clear n0_ n1_ n2_; clear hb ho3) | ((with_reducible refine gate_dst (N := 23) rfl ?_); refine Kd.R_lit k35 _ 35 ?hg (N := 23) ?hd (xs := ([(⟨16, 1, 2, 2, 0⟩ : S35), (⟨25, 8, 2, 0, 0⟩ : S35), (⟨16, 2, 4, 0, 0⟩ : S35), (⟨21, 18, 4, 0, 0⟩ : S35), (⟨16, 3, 7, 0, 0⟩ : S35), (⟨17, 26, 0, 0, 0⟩ : S35), (⟨19, 1, 0, 0, 0⟩ : S35), (⟨23, 0, 0, 0, 0⟩ : S35), (⟨24, 0, 0, 0, 0⟩ : S35)] : List (S35))) (inner := [.int .i64 16, .int .i64 1, .int .i64 2, .int .i64 2, .int .i64 0, .int .i64 25, .int .i64 8, .int .i64 2, .int .i64 0, .int .i64 0, .int .i64 16, .int .i64 2, .int .i64 4, .int .i64 0, .int .i64 0, .int .i64 21, .int .i64 18, .int .i64 4, .int .i64 0, .int .i64 0, .int .i64 16, .int .i64 3, .int .i64 7, .int .i64 0, .int .i64 0, .int .i64 17, .int .i64 26, .int .i64 0, .int .i64 0, .int .i64 0, .int .i64 19, .int .i64 1, .int .i64 0, .int .i64 0, .int .i64 0, .int .i64 23, .int .i64 0, .int .i64 0, .int .i64 0, .int .i64 0, .int .i64 24, .int .i64 0, .int .i64 0, .int .i64 0, .int .i64 0]) (ok := fun _ => True) (okp := fun _ => True) ?hr ?hp (fun _ hk => hk) trivial (Below.refl _ _) (Nat.le_refl _) (by simp) ?_; (case hd => rfl); (case hg => rfl); (case hr => first | (go_simp; done) | (go_simp; rfl)); (case hp => exact (Reps.c5 (show Kd.M k35 _ _ _ (⟨16, 1, 2, 2, 0⟩ : S35) [.int .i64 16, .int .i64 1, .int .i64 2, .int .i64 2, .int .i64 0] from (k35_mkM _ _ _ (⟨16, 1, 2, 2, 0⟩ : S35) )) (Reps.c5 (show Kd.M k35 _ _ _ (⟨25, 8, 2, 0, 0⟩ : S35) [.int .i64 25, .int .i64 8, .int .i64 2, .int .i64 0, .int .i64 0] from (k35_mkM _ _ _ (⟨25, 8, 2, 0, 0⟩ : S35) )) (Reps.c5 (show Kd.M k35 _ _ _ (⟨16, 2, 4, 0, 0⟩ : S35) [.int .i64 16, .int .i64 2, .int .i64 4, .int .i64 0, .int .i64 0] from (k35_mkM _ _ _ (⟨16, 2, 4, 0, 0⟩ : S35) )) (Reps.c5 (show Kd.M k35 _ _ _ (⟨21, 18, 4, 0, 0⟩ : S35) [.int .i64 21, .int .i64 18, .int .i64 4, .int .i64 0, .int .i64 0] from (k35_mkM _ _ _ (⟨21, 18, 4, 0, 0⟩ : S35) )) (Reps.c5 (show Kd.M k35 _ _ _ (⟨16, 3, 7, 0, 0⟩ : S35) [.int .i64 16, .int .i64 3, .int .i64 7, .int .i64 0, .int .i64 0] from (k35_mkM _ _ _ (⟨16, 3, 7, 0, 0⟩ : S35) )) (Reps.c5 (show Kd.M k35 _ _ _ (⟨17, 26, 0, 0, 0⟩ : S35) [.int .i64 17, .int .i64 26, .int .i64 0, .int .i64 0, .int .i64 0] from (k35_mkM _ _ _ (⟨17, 26, 0, 0, 0⟩ : S35) )) (Reps.c5 (show Kd.M k35 _ _ _ (⟨19, 1, 0, 0, 0⟩ : S35) [.int .i64 19, .int .i64 1, .int .i64 0, .int .i64 0, .int .i64 0] from (k35_mkM _ _ _ (⟨19, 1, 0, 0, 0⟩ : S35) )) (Reps.c5 (show Kd.M k35 _ _ _ (⟨23, 0, 0, 0, 0⟩ : S35) [.int .i64 23, .int .i64 0, .int .i64 0, .int .i64 0, .int .i64 0] from (k35_mkM _ _ _ (⟨23, 0, 0, 0, 0⟩ : S35) )) (Reps.c5 (show Kd.M k35 _ _ _ (⟨24, 0, 0, 0, 0⟩ : S35) [.int .i64 24, .int .i64 0, .int .i64 0, .int .i64 0, .int .i64 0] from (k35_mkM _ _ _ (⟨24, 0, 0, 0, 0⟩ : S35) )) (Reps.none _ _))))))))))); intro v191 w4 ho5 hb hg_ hnew_; clear hg_ hnew_; (first | rw [← Ny190.out] at ho5 | (simp only [Int.reduceToNat] at ho5; rw [← Ny190.out] at ho5)); have n0_ := Aside0.mk (Kd.R_elder' (by (with_reducible repeat (first | apply Kd.R_alloc | apply Kd.R_drewN | apply Kd.R_drew)); exact HO189.out) (Kd.R_base ho5) hb); have n1_ := Aside0.mk (Kd.R_lower (Kd.R_new' ho5 (Kd.R_lt (by (with_reducible repeat (first | apply Kd.R_alloc | apply Kd.R_drewN | apply Kd.R_drew)); exact HO189.out))) (below_size (by repeat (first | (with_reducible first | exact HB.out | apply below_alloc | apply pw_below_drewN | apply below_drew1 | refine below_set ?_ GE186.out) | exact HB.out)))); have n2_ := Aside0.mk (blk_below (g := gb186) (o := .cells #[.slice none 0 0, .slice none 0 0, .slice none 0 0] 30 (0, 0)) (by (with_reducible repeat (first | refine blk_drewN ?_ _ | refine blk_drew ?_ | refine blk_alloc ?_ _)); exact BK186.out) hb); have n3_ := Aside0.mk (below_step (by repeat (first | (with_reducible first | exact HB.out | apply below_alloc | apply pw_below_drewN | apply below_drew1 | refine below_set ?_ GE186.out) | exact HB.out)) hb); clear HO189; clear BK186; clear HB; have HO189 := n0_; have HO192 := n1_; have BK186 := n2_; have HB := n3_; clear n0_ n1_ n2_ n3_; clear hb ho5) | ((with_reducible refine gate_dst (N := 28) rfl ?_); refine Kd.R_lit k37 _ 37 ?hg (N := 28) ?hd (xs := ([(⟨8, 2⟩ : S37), (⟨16, 4⟩ : S37), (⟨18, 6⟩ : S37), (⟨26, 8⟩ : S37)] : List (S37))) (inner := [.int .i64 8, .int .i64 2, .int .i64 16, .int .i64 4, .int .i64 18, .int .i64 6, .int .i64 26, .int .i64 8]) (ok := fun _ => True) (okp := fun _ => True) ?hr ?hp (fun _ hk => hk) trivial (Below.refl _ _) (Nat.le_refl _) (by simp) ?_; (case hd => rfl); (case hg => rfl); (case hr => first | (go_simp; done) | (go_simp; rfl)); (case hp => exact (Reps.c2 (show Kd.M k37 _ _ _ (⟨8, 2⟩ : S37) [.int .i64 8, .int .i64 2] from (k37_mkM _ _ _ (⟨8, 2⟩ : S37) )) (Reps.c2 (show Kd.M k37 _ _ _ (⟨16, 4⟩ : S37) [.int .i64 16, .int .i64 4] from (k37_mkM _ _ _ (⟨16, 4⟩ : S37) )) (Reps.c2 (show Kd.M k37 _ _ _ (⟨18, 6⟩ : S37) [.int .i64 18, .int .i64 6] from (k37_mkM _ _ _ (⟨18, 6⟩ : S37) )) (Reps.c2 (show Kd.M k37 _ _ _ (⟨26, 8⟩ : S37) [.int .i64 26, .int .i64 8] from (k37_mkM _ _ _ (⟨26, 8⟩ : S37) )) (Reps.none _ _)))))); intro v194 w6 ho7 hb hg_ hnew_; clear hg_ hnew_; (first | rw [← Ny193.out] at ho7 | (simp only [Int.reduceToNat] at ho7; rw [← Ny193.out] at ho7)); have n0_ := Aside0.mk (Kd.R_below (by (with_reducible repeat (first | apply Kd.R_alloc | apply Kd.R_drewN | apply Kd.R_drew)); exact HO189.out) hb); have n1_ := Aside0.mk (Kd.R_below (by (with_reducible repeat (first | apply Kd.R_alloc | apply Kd.R_drewN | apply Kd.R_drew)); exact HO192.out) hb); have n2_ := Aside0.mk (Kd.R_lower ho7 (below_size (by repeat (first | (with_reducible first | exact HB.out | apply below_alloc | apply pw_below_drewN | apply below_drew1 | refine below_set ?_ GE186.out) | exact HB.out)))); have n3_ := Aside0.mk (blk_below (g := gb186) (o := .cells #[.slice none 0 0, .slice none 0 0, .slice none 0 0] 30 (0, 0)) (by (with_reducible repeat (first | refine blk_drewN ?_ _ | refine blk_drew ?_ | refine blk_alloc ?_ _)); exact BK186.out) hb); have n4_ := Aside0.mk (below_step (by repeat (first | (with_reducible first | exact HB.out | apply below_alloc | apply pw_below_drewN | apply below_drew1 | refine below_set ?_ GE186.out) | exact HB.out)) hb); clear HO189; clear HO192; clear BK186; clear HB; have HO189 := n0_; have HO192 := n1_; have HO195 := n2_; have BK186 := n3_; have HB := n4_; clear n0_ n1_ n2_ n3_ n4_; clear hb ho7; obtain ⟨Ao8, co8, eo8⟩ := Kd.R_slice HO195.out; subst eo8; obtain ⟨Ao9, co9, eo9⟩ := Kd.R_slice HO192.out; subst eo9; obtain ⟨Ao10, co10, eo10⟩ := Kd.R_slice HO189.out; subst eo10; have hcz11_0 : w6.cell? ⟨gb186, 0, none⟩ = some (.slice none 0 0) := (blk_cell BK186.out 0).trans rfl; have hcz11_1 : w6.cell? ⟨gb186, 1, none⟩ = some (.slice none 0 0) := (blk_cell BK186.out 1).trans rfl; have hcz11_2 : w6.cell? ⟨gb186, 2, none⟩ = some (.slice none 0 0) := (blk_cell BK186.out 2).trans rfl; have hfz11_0 := blk_frozen BK186.out 0; have hfz11_1 := blk_frozen BK186.out 1; have hfz11_2 := blk_frozen BK186.out 2))
 refine bodyPost_ret (results_cell_row rfl _ _ gb186 30 #[.slice Ao10 y187.length co10, .slice Ao9 y190.length co9, .slice Ao8 y193.length co8] (0, 0) _ rfl (by (with_reducible repeat (first | refine blk_drewN ?_ _ | refine blk_drew ?_ | refine blk_alloc ?_ _)); refine blk_put (cs := #[.slice Ao10 y187.length co10, .slice Ao9 y190.length co9, .slice none 0 0]) ?_ 2 _ rfl; (with_reducible repeat (first | refine blk_drewN ?_ _ | refine blk_drew ?_ | refine blk_alloc ?_ _)); refine blk_put (cs := #[.slice Ao10 y187.length co10, .slice none 0 0, .slice none 0 0]) ?_ 1 _ rfl; (with_reducible repeat (first | refine blk_drewN ?_ _ | refine blk_drew ?_ | refine blk_alloc ?_ _)); refine blk_put (cs := #[.slice none 0 0, .slice none 0 0, .slice none 0 0]) ?_ 0 _ rfl; (with_reducible repeat (first | refine blk_drewN ?_ _ | refine blk_drew ?_ | refine blk_alloc ?_ _)); exact BK186.out) Try.underlying30 rfl (by kernel_rfl)) rfl ?_
 exact ⟨_, _, _, by first | rfl | (simp [errW_none, errW_some] <;> rfl) | (simp [*, errW_none, errW_some] <;> rfl), by (with_reducible repeat (first | apply Kd.R_alloc | apply Kd.R_drewN | apply Kd.R_drew)); exact Kd.R_mono (Kd.R_far (p := ⟨gb186, 2, none⟩) (Kd.R_far (p := ⟨gb186, 1, none⟩) (Kd.R_far (p := ⟨gb186, 0, none⟩) (Kd.R_types HO189.out BK186.out (by decide)) (fun _ hk => hk.2) (.slice Ao10 y187.length co10)) (fun _ hk => hk.2) (.slice Ao9 y190.length co9)) (fun _ hk => hk.2) (.slice Ao8 y193.length co8)) (fun _ hk => hk.1.2), by (with_reducible repeat (first | apply Kd.R_alloc | apply Kd.R_drewN | apply Kd.R_drew)); exact Kd.R_mono (Kd.R_far (p := ⟨gb186, 2, none⟩) (Kd.R_far (p := ⟨gb186, 1, none⟩) (Kd.R_far (p := ⟨gb186, 0, none⟩) (Kd.R_types HO192.out BK186.out (by decide)) (fun _ hk => hk.2) (.slice Ao10 y187.length co10)) (fun _ hk => hk.2) (.slice Ao9 y190.length co9)) (fun _ hk => hk.2) (.slice Ao8 y193.length co8)) (fun _ hk => hk.1.2), by (with_reducible repeat (first | apply Kd.R_alloc | apply Kd.R_drewN | apply Kd.R_drew)); exact Kd.R_mono (Kd.R_far (p := ⟨gb186, 2, none⟩) (Kd.R_far (p := ⟨gb186, 1, none⟩) (Kd.R_far (p := ⟨gb186, 0, none⟩) (Kd.R_types HO195.out BK186.out (by decide)) (fun _ hk => hk.2) (.slice Ao10 y187.length co10)) (fun _ hk => hk.2) (.slice Ao9 y190.length co9)) (fun _ hk => hk.2) (.slice Ao8 y193.length co8)) (fun _ hk => trivial), by repeat (first | (with_reducible first | exact HB.out | apply below_alloc | apply pw_below_drewN | apply below_drew1 | refine below_set ?_ GE186.out) | exact HB.out)⟩
end Go.Proofs.Ytedghbjmhcgilaa.POpt
end
section
namespace Go.Proofs.Ytedghbjmhcgilaa.POpt
open Go.RowKit Go.Proofs.YtedghbjmhcgilaaW.PrintWords Go.Proofs.YtedghbjmhcgilaaW.PrintLast Go.Proofs.YtedghbjmhcgilaaW.PrintMore
attribute [local go_sem] max2_int min2_int max_two min_two max_three min_three max_four min_four
set_option linter.unusedVariables false
set_option linter.unusedSimpArgs false
def cartouchelaw14_awake.f (k : Nat)  : Option (Bool) := (cartouchelaw13_Lowered.f).bind fun bt196 => ((opt_Block.f k bt196.1 bt196.2.1 bt196.2.2).bind fun bt205 => ((cartouchelaw14_Better.f).bind fun bt214 => ((cartouchelaw14_same.f k bt205.1 bt205.2.1 bt205.2.2 bt214.1 bt214.2.1 bt214.2.2).bind fun t223 => (some t223))))
set_option maxHeartbeats 8000000 in
set_option maxRecDepth 100000 in
theorem cartouchelaw14_awake.calls (k : Nat)  (r : Bool) (w : World) (h : cartouchelaw14_awake.f k  = some r) :
  Calls Try.prog 8 #[] w fun e w' => e = .returned (.bool r) ∧ Below w.heap.size w w' := by
 have HB := Aside0.mk (Below.refl w.heap.size w)
 have H : ((cartouchelaw13_Lowered.f).bind fun bt196 => ((opt_Block.f k bt196.1 bt196.2.1 bt196.2.2).bind fun bt205 => ((cartouchelaw14_Better.f).bind fun bt214 => ((cartouchelaw14_same.f k bt205.1 bt205.2.1 bt205.2.2 bt214.1 bt214.2.1 bt214.2.2).bind fun t223 => (some t223))))) = some r := h
 clear h
 replace H := Option.bind_eq_some_iff.mp H
 obtain ⟨⟨t196, t199, t202⟩, A10, H⟩ := H
 replace H : ((opt_Block.f k t196 t199 t202).bind fun bt205 => ((cartouchelaw14_Better.f).bind fun bt214 => ((cartouchelaw14_same.f k bt205.1 bt205.2.1 bt205.2.2 bt214.1 bt214.2.1 bt214.2.2).bind fun t223 => (some t223)))) = some r := H
 have A1 := Aside0.mk A10
 clear A10
 replace H := Option.bind_eq_some_iff.mp H
 obtain ⟨⟨t205, t208, t211⟩, A20, H⟩ := H
 replace H : ((cartouchelaw14_Better.f).bind fun bt214 => ((cartouchelaw14_same.f k t205 t208 t211 bt214.1 bt214.2.1 bt214.2.2).bind fun t223 => (some t223))) = some r := H
 have A2 := Aside0.mk A20
 clear A20
 replace H := Option.bind_eq_some_iff.mp H
 obtain ⟨⟨t214, t217, t220⟩, A30, H⟩ := H
 replace H : ((cartouchelaw14_same.f k t205 t208 t211 t214 t217 t220).bind fun t223 => (some t223)) = some r := H
 have A3 := Aside0.mk A30
 clear A30
 replace H := Option.bind_eq_some_iff.mp H
 obtain ⟨t223, A40, H⟩ := H
 replace H : (some t223) = some r := H
 have A4 := Aside0.mk A40
 clear A40
 obtain rfl := Option.some.inj H
 go_enter Try.func8, Try.ntmps8
 go_wp2_with (first | ((with_reducible refine gate_callee (f := 21) rfl ?_); refine goesL_ (some 1) rfl rfl Try.func21 (by kernel_rfl) rfl #[] rfl (by (try simp only [List.map_toArray, List.map_cons, List.map_nil]); first | done | rfl | (simp only [List.length_drop, List.length_take]; rfl)) ?_; (with_reducible refine (cartouchelaw13_Lowered.calls  t196 t199 t202 _ A1.out).mono ?_); rintro e w5 ⟨v197, v200, v203, rfl, ho0, ho1, ho2, hb⟩; refine ⟨_, rfl, ?_⟩; have n0_ := Aside0.mk (Kd.R_lower ho0 (below_size (by repeat (first | (with_reducible first | exact HB.out | apply below_alloc | apply pw_below_drewN | apply below_drew1) | exact HB.out)))); have n1_ := Aside0.mk (Kd.R_lower ho1 (below_size (by repeat (first | (with_reducible first | exact HB.out | apply below_alloc | apply pw_below_drewN | apply below_drew1) | exact HB.out)))); have n2_ := Aside0.mk (Kd.R_lower ho2 (below_size (by repeat (first | (with_reducible first | exact HB.out | apply below_alloc | apply pw_below_drewN | apply below_drew1) | exact HB.out)))); have n3_ := Aside0.mk (below_step (by repeat (first | (with_reducible first | exact HB.out | apply below_alloc | apply pw_below_drewN | apply below_drew1) | exact HB.out)) hb); clear HB; have HO198 := n0_; have HO201 := n1_; have HO204 := n2_; have HB := n3_; clear n0_ n1_ n2_ n3_; (try clear hb); (try clear hb2); (try clear hk); (try clear hi); (try clear ho0); (try clear ho1); (try clear ho2); obtain ⟨Ao6, co6, eo6⟩ := Kd.R_slice HO198.out; subst eo6; obtain ⟨Ao7, co7, eo7⟩ := Kd.R_slice HO201.out; subst eo7; obtain ⟨Ao8, co8, eo8⟩ := Kd.R_slice HO204.out; subst eo8) | ((with_reducible refine gate_callee (f := 19) rfl ?_); refine goesL_ (some 2) rfl rfl Try.func19 (by kernel_rfl) rfl #[.agg #[.slice Ao6 t196.length co6, .slice Ao7 t199.length co7, .slice Ao8 t202.length co8]] rfl (by (try simp only [List.map_toArray, List.map_cons, List.map_nil]); first | done | rfl | (simp only [List.length_drop, List.length_take]; rfl)) ?_; (with_reducible refine (opt_Block.calls k _ _ t196 _ _ t199 _ _ t202 t205 t208 t211 _ ?side1 ?side2 ?side3 ?side4 ?side5 ?side6 A2.out).mono ?_); (case side1 => repeat (first | exact (Kd.R_reads' HO198.out).2.2 | (with_reducible refine Kd.C_alloc ?_ _) | (with_reducible refine Kd.C_drewN ?_ _) | (with_reducible refine Kd.C_drew ?_))); (case side2 => exact (Kd.R_reads' HO198.out).2.1); (case side3 => repeat (first | exact (Kd.R_reads' HO201.out).2.2 | (with_reducible refine Kd.C_alloc ?_ _) | (with_reducible refine Kd.C_drewN ?_ _) | (with_reducible refine Kd.C_drew ?_))); (case side4 => exact (Kd.R_reads' HO201.out).2.1); (case side5 => repeat (first | exact (Kd.R_reads' HO204.out).2.2 | (with_reducible refine Kd.C_alloc ?_ _) | (with_reducible refine Kd.C_drewN ?_ _) | (with_reducible refine Kd.C_drew ?_))); (case side6 => exact (Kd.R_reads' HO204.out).2.1); rintro e w9 ⟨v206, v209, v212, rfl, ho0, ho1, ho2, hb⟩; refine ⟨_, rfl, ?_⟩; have n0_ := Aside0.mk (Kd.R_mono (Kd.R_told (Kd.R_told (Kd.R_old (by (with_reducible repeat (first | apply Kd.R_alloc | apply Kd.R_drewN | apply Kd.R_drew)); exact HO198.out) hb) (Kd.R_base ho0)) (Kd.R_base ho1)) (fun _ h_ => h_.1)); have n1_ := Aside0.mk (Kd.R_mono (Kd.R_told (Kd.R_told (Kd.R_old (by (with_reducible repeat (first | apply Kd.R_alloc | apply Kd.R_drewN | apply Kd.R_drew)); exact HO201.out) hb) (Kd.R_base ho0)) (Kd.R_base ho1)) (fun _ h_ => h_.1)); have n2_ := Aside0.mk (Kd.R_elder' (by (with_reducible repeat (first | apply Kd.R_alloc | apply Kd.R_drewN | apply Kd.R_drew)); exact HO204.out) (Kd.R_base ho2) hb); have n3_ := Aside0.mk (Kd.R_lower (Kd.R_new' (Kd.R_new' ho0 (Kd.R_lt (by (with_reducible repeat (first | apply Kd.R_alloc | apply Kd.R_drewN | apply Kd.R_drew)); exact HO198.out))) (Kd.R_lt (by (with_reducible repeat (first | apply Kd.R_alloc | apply Kd.R_drewN | apply Kd.R_drew)); exact HO201.out))) (below_size (by repeat (first | (with_reducible first | exact HB.out | apply below_alloc | apply pw_below_drewN | apply below_drew1) | exact HB.out)))); have n4_ := Aside0.mk (Kd.R_lower (Kd.R_new' (Kd.R_new' ho1 (Kd.R_lt (by (with_reducible repeat (first | apply Kd.R_alloc | apply Kd.R_drewN | apply Kd.R_drew)); exact HO198.out))) (Kd.R_lt (by (with_reducible repeat (first | apply Kd.R_alloc | apply Kd.R_drewN | apply Kd.R_drew)); exact HO201.out))) (below_size (by repeat (first | (with_reducible first | exact HB.out | apply below_alloc | apply pw_below_drewN | apply below_drew1) | exact HB.out)))); have n5_ := Aside0.mk (Kd.R_lower (Kd.R_new' ho2 (Kd.R_lt (by (with_reducible repeat (first | apply Kd.R_alloc | apply Kd.R_drewN | apply Kd.R_drew)); exact HO204.out))) (below_size (by repeat (first | (with_reducible first | exact HB.out | apply below_alloc | apply pw_below_drewN | apply below_drew1) | exact HB.out)))); have n6_ := Aside0.mk (below_step (by repeat (first | (with_reducible first | exact HB.out | apply below_alloc | apply pw_below_drewN | apply below_drew1) | exact HB.out)) hb); clear HO198; clear HO201; clear HO204; clear HB; have HO198 := n0_; have HO201 := n1_; have HO204 := n2_; have HO207 := n3_; have HO210 := n4_; have HO213 := n5_; have HB := n6_; clear n0_ n1_ n2_ n3_ n4_ n5_ n6_; (try clear hb); (try clear hb2); (try clear hk); (try clear hi); (try clear ho0); (try clear ho1); (try clear ho2)) | ((with_reducible refine gate_callee (f := 23) rfl ?_); refine goesL_ (some 3) rfl rfl Try.func23 (by kernel_rfl) rfl #[] rfl (by (try simp only [List.map_toArray, List.map_cons, List.map_nil]); first | done | rfl | (simp only [List.length_drop, List.length_take]; rfl)) ?_; (with_reducible refine (cartouchelaw14_Better.calls  t214 t217 t220 _ A3.out).mono ?_); rintro e w10 ⟨v215, v218, v221, rfl, ho0, ho1, ho2, hb⟩; refine ⟨_, rfl, ?_⟩; have n0_ := Aside0.mk (Kd.R_mono (Kd.R_told (Kd.R_told (Kd.R_old (by (with_reducible repeat (first | apply Kd.R_alloc | apply Kd.R_drewN | apply Kd.R_drew)); exact HO198.out) hb) (Kd.R_base ho0)) (Kd.R_base ho1)) (fun _ h_ => h_.1)); have n1_ := Aside0.mk (Kd.R_mono (Kd.R_told (Kd.R_told (Kd.R_old (by (with_reducible repeat (first | apply Kd.R_alloc | apply Kd.R_drewN | apply Kd.R_drew)); exact HO201.out) hb) (Kd.R_base ho0)) (Kd.R_base ho1)) (fun _ h_ => h_.1)); have n2_ := Aside0.mk (Kd.R_elder' (by (with_reducible repeat (first | apply Kd.R_alloc | apply Kd.R_drewN | apply Kd.R_drew)); exact HO204.out) (Kd.R_base ho2) hb); have n3_ := Aside0.mk (Kd.R_mono (Kd.R_told (Kd.R_told (Kd.R_old (by (with_reducible repeat (first | apply Kd.R_alloc | apply Kd.R_drewN | apply Kd.R_drew)); exact HO207.out) hb) (Kd.R_base ho0)) (Kd.R_base ho1)) (fun _ h_ => h_.1)); have n4_ := Aside0.mk (Kd.R_mono (Kd.R_told (Kd.R_told (Kd.R_old (by (with_reducible repeat (first | apply Kd.R_alloc | apply Kd.R_drewN | apply Kd.R_drew)); exact HO210.out) hb) (Kd.R_base ho0)) (Kd.R_base ho1)) (fun _ h_ => h_.1)); have n5_ := Aside0.mk (Kd.R_elder' (by (with_reducible repeat (first | apply Kd.R_alloc | apply Kd.R_drewN | apply Kd.R_drew)); exact HO213.out) (Kd.R_base ho2) hb); have n6_ := Aside0.mk (Kd.R_lower (Kd.R_new' (Kd.R_new' (Kd.R_new' (Kd.R_new' ho0 (Kd.R_lt (by (with_reducible repeat (first | apply Kd.R_alloc | apply Kd.R_drewN | apply Kd.R_drew)); exact HO198.out))) (Kd.R_lt (by (with_reducible repeat (first | apply Kd.R_alloc | apply Kd.R_drewN | apply Kd.R_drew)); exact HO201.out))) (Kd.R_lt (by (with_reducible repeat (first | apply Kd.R_alloc | apply Kd.R_drewN | apply Kd.R_drew)); exact HO207.out))) (Kd.R_lt (by (with_reducible repeat (first | apply Kd.R_alloc | apply Kd.R_drewN | apply Kd.R_drew)); exact HO210.out))) (below_size (by repeat (first | (with_reducible first | exact HB.out | apply below_alloc | apply pw_below_drewN | apply below_drew1) | exact HB.out)))); have n7_ := Aside0.mk (Kd.R_lower (Kd.R_new' (Kd.R_new' (Kd.R_new' (Kd.R_new' ho1 (Kd.R_lt (by (with_reducible repeat (first | apply Kd.R_alloc | apply Kd.R_drewN | apply Kd.R_drew)); exact HO198.out))) (Kd.R_lt (by (with_reducible repeat (first | apply Kd.R_alloc | apply Kd.R_drewN | apply Kd.R_drew)); exact HO201.out))) (Kd.R_lt (by (with_reducible repeat (first | apply Kd.R_alloc | apply Kd.R_drewN | apply Kd.R_drew)); exact HO207.out))) (Kd.R_lt (by (with_reducible repeat (first | apply Kd.R_alloc | apply Kd.R_drewN | apply Kd.R_drew)); exact HO210.out))) (below_size (by repeat (first | (with_reducible first | exact HB.out | apply below_alloc | apply pw_below_drewN | apply below_drew1) | exact HB.out)))); have n8_ := Aside0.mk (Kd.R_lower (Kd.R_new' (Kd.R_new' ho2 (Kd.R_lt (by (with_reducible repeat (first | apply Kd.R_alloc | apply Kd.R_drewN | apply Kd.R_drew)); exact HO204.out))) (Kd.R_lt (by (with_reducible repeat (first | apply Kd.R_alloc | apply Kd.R_drewN | apply Kd.R_drew)); exact HO213.out))) (below_size (by repeat (first | (with_reducible first | exact HB.out | apply below_alloc | apply pw_below_drewN | apply below_drew1) | exact HB.out)))); have n9_ := Aside0.mk (below_step (by repeat (first | (with_reducible first | exact HB.out | apply below_alloc | apply pw_below_drewN | apply below_drew1) | exact HB.out)) hb); clear HO198; clear HO201; clear HO204; clear HO207; clear HO210; clear HO213; clear HB; have HO198 := n0_; have HO201 := n1_; have HO204 := n2_; have HO207 := n3_; have HO210 := n4_; have HO213 := n5_; have HO216 := n6_; have HO219 := n7_; have HO222 := n8_; have HB := n9_; clear n0_ n1_ n2_ n3_ n4_ n5_ n6_ n7_ n8_ n9_; (try clear hb); (try clear hb2); (try clear hk); (try clear hi); (try clear ho0); (try clear ho1); (try clear ho2); obtain ⟨Ao11, co11, eo11⟩ := Kd.R_slice HO207.out; subst eo11; obtain ⟨Ao12, co12, eo12⟩ := Kd.R_slice HO210.out; subst eo12; obtain ⟨Ao13, co13, eo13⟩ := Kd.R_slice HO213.out; subst eo13; obtain ⟨Ao14, co14, eo14⟩ := Kd.R_slice HO216.out; subst eo14; obtain ⟨Ao15, co15, eo15⟩ := Kd.R_slice HO219.out; subst eo15; obtain ⟨Ao16, co16, eo16⟩ := Kd.R_slice HO222.out; subst eo16) | ((with_reducible refine gate_callee (f := 10) rfl ?_); refine goesL_ (some 4) rfl rfl Try.func10 (by kernel_rfl) rfl #[.agg #[.slice Ao11 t205.length co11, .slice Ao12 t208.length co12, .slice Ao13 t211.length co13], .agg #[.slice Ao14 t214.length co14, .slice Ao15 t217.length co15, .slice Ao16 t220.length co16]] rfl (by (try simp only [List.map_toArray, List.map_cons, List.map_nil]); first | done | rfl | (simp only [List.length_drop, List.length_take]; rfl)) ?_; (with_reducible refine (cartouchelaw14_same.calls k _ _ t205 _ _ t208 _ _ t211 _ _ t214 _ _ t217 _ _ t220 t223 _ ?side1 ?side2 ?side3 ?side4 ?side5 ?side6 ?side7 ?side8 ?side9 ?side10 ?side11 ?side12 A4.out).mono ?_); (case side1 => repeat (first | exact (Kd.R_reads' HO207.out).2.2 | (with_reducible refine Kd.C_alloc ?_ _) | (with_reducible refine Kd.C_drewN ?_ _) | (with_reducible refine Kd.C_drew ?_))); (case side2 => exact (Kd.R_reads' HO207.out).2.1); (case side3 => repeat (first | exact (Kd.R_reads' HO210.out).2.2 | (with_reducible refine Kd.C_alloc ?_ _) | (with_reducible refine Kd.C_drewN ?_ _) | (with_reducible refine Kd.C_drew ?_))); (case side4 => exact (Kd.R_reads' HO210.out).2.1); (case side5 => repeat (first | exact (Kd.R_reads' HO213.out).2.2 | (with_reducible refine Kd.C_alloc ?_ _) | (with_reducible refine Kd.C_drewN ?_ _) | (with_reducible refine Kd.C_drew ?_))); (case side6 => exact (Kd.R_reads' HO213.out).2.1); (case side7 => repeat (first | exact (Kd.R_reads' HO216.out).2.2 | (with_reducible refine Kd.C_alloc ?_ _) | (with_reducible refine Kd.C_drewN ?_ _) | (with_reducible refine Kd.C_drew ?_))); (case side8 => exact (Kd.R_reads' HO216.out).2.1); (case side9 => repeat (first | exact (Kd.R_reads' HO219.out).2.2 | (with_reducible refine Kd.C_alloc ?_ _) | (with_reducible refine Kd.C_drewN ?_ _) | (with_reducible refine Kd.C_drew ?_))); (case side10 => exact (Kd.R_reads' HO219.out).2.1); (case side11 => repeat (first | exact (Kd.R_reads' HO222.out).2.2 | (with_reducible refine Kd.C_alloc ?_ _) | (with_reducible refine Kd.C_drewN ?_ _) | (with_reducible refine Kd.C_drew ?_))); (case side12 => exact (Kd.R_reads' HO222.out).2.1); rintro e w17 ⟨rfl, hb⟩; refine ⟨_, rfl, ?_⟩; have n0_ := Aside0.mk (Kd.R_below (by (with_reducible repeat (first | apply Kd.R_alloc | apply Kd.R_drewN | apply Kd.R_drew)); exact HO198.out) hb); have n1_ := Aside0.mk (Kd.R_below (by (with_reducible repeat (first | apply Kd.R_alloc | apply Kd.R_drewN | apply Kd.R_drew)); exact HO201.out) hb); have n2_ := Aside0.mk (Kd.R_below (by (with_reducible repeat (first | apply Kd.R_alloc | apply Kd.R_drewN | apply Kd.R_drew)); exact HO204.out) hb); have n3_ := Aside0.mk (Kd.R_below (by (with_reducible repeat (first | apply Kd.R_alloc | apply Kd.R_drewN | apply Kd.R_drew)); exact HO207.out) hb); have n4_ := Aside0.mk (Kd.R_below (by (with_reducible repeat (first | apply Kd.R_alloc | apply Kd.R_drewN | apply Kd.R_drew)); exact HO210.out) hb); have n5_ := Aside0.mk (Kd.R_below (by (with_reducible repeat (first | apply Kd.R_alloc | apply Kd.R_drewN | apply Kd.R_drew)); exact HO213.out) hb); have n6_ := Aside0.mk (Kd.R_below (by (with_reducible repeat (first | apply Kd.R_alloc | apply Kd.R_drewN | apply Kd.R_drew)); exact HO216.out) hb); have n7_ := Aside0.mk (Kd.R_below (by (with_reducible repeat (first | apply Kd.R_alloc | apply Kd.R_drewN | apply Kd.R_drew)); exact HO219.out) hb); have n8_ := Aside0.mk (Kd.R_below (by (with_reducible repeat (first | apply Kd.R_alloc | apply Kd.R_drewN | apply Kd.R_drew)); exact HO222.out) hb); have n9_ := Aside0.mk (below_step (by repeat (first | (with_reducible first | exact HB.out | apply below_alloc | apply pw_below_drewN | apply below_drew1) | exact HB.out)) hb); clear HO198; clear HO201; clear HO204; clear HO207; clear HO210; clear HO213; clear HO216; clear HO219; clear HO222; clear HB; have HO198 := n0_; have HO201 := n1_; have HO204 := n2_; have HO207 := n3_; have HO210 := n4_; have HO213 := n5_; have HO216 := n6_; have HO219 := n7_; have HO222 := n8_; have HB := n9_; clear n0_ n1_ n2_ n3_ n4_ n5_ n6_ n7_ n8_ n9_; (try clear hb); (try clear hb2); (try clear hk); (try clear hi)))
 go_ret
 exact ⟨by first | rfl | (simp [errW_none, errW_some] <;> rfl) | (simp [*, errW_none, errW_some] <;> rfl), by repeat (first | (with_reducible first | exact HB.out | apply below_alloc | apply pw_below_drewN | apply below_drew1) | exact HB.out)⟩
end Go.Proofs.Ytedghbjmhcgilaa.POpt
end
section
namespace Go.Proofs.Ytedghbjmhcgilaa.POpt
open Go.RowKit Go.Proofs.YtedghbjmhcgilaaW.PrintWords Go.Proofs.YtedghbjmhcgilaaW.PrintLast Go.Proofs.YtedghbjmhcgilaaW.PrintMore
attribute [local go_sem] max2_int min2_int max_two min_two max_three min_three max_four min_four
set_option linter.unusedVariables false
set_option linter.unusedSimpArgs false
def cartoucheref13_rising.l0 : Nat → List (S37) → Int → Option (Bool)
 | 0, _, _ => none
 | k + 1, x0, x3 => if x3 < (x0.length : Int) then (if 0 ≤ (wrap64 (x3 - 1)) then (if (wrap64 (x3 - 1)) < (x0.length : Int) then (if 0 ≤ x3 then (if ((rd_T37 x0 (wrap64 (x3 - 1))).f0) ≥ ((rd_T37 x0 x3).f0) then (some false) else (cartoucheref13_rising.l0 k x0 (wrap64 (x3 + 1)))) else (none)) else (none)) else (none)) else (some true)
def cartoucheref13_rising.f (k : Nat) (l0 : List (S37)) : Option (Bool) := cartoucheref13_rising.l0 k l0 1
theorem cartoucheref13_rising.mono_l : ∀ k, (∀ y0 y1, LeO (cartoucheref13_rising.l0 k y0 y1) (cartoucheref13_rising.l0 (k + 1) y0 y1))
 | 0 => fun _ _ r h => by simp [cartoucheref13_rising.l0] at h
 | k + 1 => by
  have ih0 := cartoucheref13_rising.mono_l k
  ·intro y0 y1
   unfold cartoucheref13_rising.l0
   repeat' first
   | (with_reducible exact ih0 _ _)
   | (with_reducible exact LeO.refl _)
   | (with_reducible exact LeO.none _)
   | (with_reducible refine LeO.ite ?_ ?_)
   | (with_reducible refine LeO.bind ?_ (fun _ => ?_))
   | exact ih0 _ _
   | exact LeO.none _
   | refine LeO.ite ?_ ?_
   | refine LeO.bind ?_ (fun _ => ?_)
theorem cartoucheref13_rising.mono : ∀ a0 k, LeO (cartoucheref13_rising.f k a0) (cartoucheref13_rising.f (k + 1) a0) := by
 intro a0 k
 have ih0 := cartoucheref13_rising.mono_l k
 unfold cartoucheref13_rising.f
 repeat' first
   | (with_reducible exact ih0 _ _)
   | (with_reducible exact LeO.refl _)
   | (with_reducible exact LeO.none _)
   | (with_reducible refine LeO.ite ?_ ?_)
   | (with_reducible refine LeO.bind ?_ (fun _ => ?_))
   | exact ih0 _ _
   | exact LeO.none _
   | refine LeO.ite ?_ ?_
   | refine LeO.bind ?_ (fun _ => ?_)
set_option maxHeartbeats 8000000 in
set_option maxRecDepth 100000 in
theorem cartoucheref13_rising.calls (k : Nat) (A0 : Option Addr) (c0 : Nat) (l0 : List (S37)) (r : Bool) (w : World) (hr0 : Kd.C k37 w A0 l0.length l0) (hc0 : l0.length ≤ c0) (h : cartoucheref13_rising.f k l0 = some r) :
  Calls Try.prog 29 #[.slice A0 l0.length c0] w fun e w' => e = .returned (.bool r) ∧ Drawn0 w w' := by
 have HR0 := Aside0.mk hr0
 have HC0 := Aside0.mk hc0
 clear hr0 hc0
 have H : (cartoucheref13_rising.l0 k l0 1) = some r := h
 clear h
 have H' := Aside0.mk H
 clear H
 go_enter Try.func29, Try.ntmps29
 go_wp2
 repeat (go_quiet (fail); try go_wp2)
 go_loopg [3] k (fun kq v3 w' => ∃ (x3_1 : Int), v3 = .int .i64 x3_1 ∧ Aside0 (cartoucheref13_rising.l0 kq l0 x3_1 = some r) ∧ Aside0 (kq ≤ k) ∧ Drawn0 w w')
 case atStart => exact ⟨(1), (by first | rfl | (simp; done) | (simp [*]; done)), H', ⟨Nat.le_refl _⟩, by repeat (first | exact Drawn0.refl _ | apply Drawn0.step)⟩
 case round =>
  clear H'
  obtain ⟨x3_1, rfl, HA, HK1, ⟨m1, rfl⟩⟩ := hrel
  cases gk with
  | zero => exact absurd HA.out (by simp [cartoucheref13_rising.l0])
  | succ k1 =>
   have H := HA.out
   clear HA
   simp only [cartoucheref13_rising.l0] at H
   by_cases c2 : x3_1 < (l0.length : Int)
   ·rw [if_pos c2] at H
    have c2b0 : decide (x3_1 < (l0.length : Int)) = true := decide_eq_true c2
    clear c2
    obtain ⟨ji3, hji3⟩ : ∃ j_ : Int, (wrap64 (x3_1 - 1)) = j_ := ⟨_, rfl⟩
    replace H : (if 0 ≤ (ji3) then (if (ji3) < (l0.length : Int) then (if 0 ≤ x3_1 then (if ((rd_T37 l0 (ji3)).f0) ≥ ((rd_T37 l0 x3_1).f0) then (some false) else (cartoucheref13_rising.l0 k1 l0 (wrap64 (x3_1 + 1)))) else (none)) else (none)) else (none)) = some r := by first | (rw [hji3] at H; exact H) | (simp only [hji3] at H ⊢; exact H)
    have hji3w : (IntKind.i64.wrap (x3_1 - 1)) = ji3 := (i64_w _).trans hji3
    by_cases c4 : 0 ≤ (ji3)
    ·rw [if_pos c4] at H
     have c4b0 : decide (0 ≤ (ji3)) = true := decide_eq_true c4
     clear c4
     by_cases c5 : (ji3) < (l0.length : Int)
     ·rw [if_pos c5] at H
      have c5b0 : decide ((ji3) < (l0.length : Int)) = true := decide_eq_true c5
      clear c5
      by_cases c6 : 0 ≤ x3_1
      ·rw [if_pos c6] at H
       have c6b0 : decide (0 ≤ x3_1) = true := decide_eq_true c6
       clear c6
       by_cases c7 : ((rd_T37 l0 (ji3)).f0) ≥ ((rd_T37 l0 x3_1).f0)
       ·rw [if_pos c7] at H
        have c7b0 : decide (((rd_T37 l0 x3_1).f0) ≤ ((rd_T37 l0 (ji3)).f0)) = true := decide_eq_true c7
        clear c7
        obtain rfl := Option.some.inj H
        have p224 : 0 ≤ ((ji3) : Int) := of_decide_eq_true (by first | (with_reducible assumption) | assumption)
        have q224 : (ji3) < (l0.length : Int) := of_decide_eq_true (by first | (with_reducible assumption) | assumption)
        obtain ⟨ad224, e224, hx224_0, hx224_1⟩ := at_T37 HR0.out (ji3) p224 q224
        cases e224
        replace p224 := eq_true p224
        replace q224 := eq_true q224
        have p225 : 0 ≤ (x3_1 : Int) := of_decide_eq_true (by first | (with_reducible assumption) | assumption)
        have q225 : x3_1 < (l0.length : Int) := of_decide_eq_true (by first | (with_reducible assumption) | assumption)
        obtain ⟨ad225, e225, hx225_0, hx225_1⟩ := at_T37 HR0.out x3_1 p225 q225
        obtain rfl : ad224 = ad225 := (by injection e225)
        replace p225 := eq_true p225
        replace q225 := eq_true q225
        go_wp2
        repeat (go_quiet (fail); try go_wp2)
        go_ret
        exact ⟨by first | rfl | (simp; done) | (simp only [← hji3] <;> (first | rfl | (simp; done))) | (simp [*]; done), by repeat (first | exact Drawn0.refl _ | apply Drawn0.step)⟩
       ·rw [if_neg c7] at H
        have c7b0 : decide (((rd_T37 l0 x3_1).f0) ≤ ((rd_T37 l0 (ji3)).f0)) = false := decide_eq_false c7
        clear c7
        have H' := Aside0.mk H
        clear H
        have p224 : 0 ≤ ((ji3) : Int) := of_decide_eq_true (by first | (with_reducible assumption) | assumption)
        have q224 : (ji3) < (l0.length : Int) := of_decide_eq_true (by first | (with_reducible assumption) | assumption)
        obtain ⟨ad224, e224, hx224_0, hx224_1⟩ := at_T37 HR0.out (ji3) p224 q224
        cases e224
        replace p224 := eq_true p224
        replace q224 := eq_true q224
        have p225 : 0 ≤ (x3_1 : Int) := of_decide_eq_true (by first | (with_reducible assumption) | assumption)
        have q225 : x3_1 < (l0.length : Int) := of_decide_eq_true (by first | (with_reducible assumption) | assumption)
        obtain ⟨ad225, e225, hx225_0, hx225_1⟩ := at_T37 HR0.out x3_1 p225 q225
        obtain rfl : ad224 = ad225 := (by injection e225)
        replace p225 := eq_true p225
        replace q225 := eq_true q225
        go_wp2
        repeat (go_quiet (fail); try go_wp2)
        go_roundg k1
        case measure => have := HK1.out; omega
        case rel => exact ⟨(wrap64 (x3_1 + 1)), (by first | rfl | (simp; done) | (simp [*]; done)), H', ⟨by have := HK1.out; omega⟩, by repeat (first | exact Drawn0.refl _ | apply Drawn0.step)⟩
      ·rw [if_neg c6] at H
       exact absurd H (by simp)
     ·rw [if_neg c5] at H
      exact absurd H (by simp)
    ·rw [if_neg c4] at H
     exact absurd H (by simp)
   ·rw [if_neg c2] at H
    have c2b0 : decide (x3_1 < (l0.length : Int)) = false := decide_eq_false c2
    clear c2
    obtain rfl := Option.some.inj H
    go_wp2
    repeat (go_quiet (fail); try go_wp2)
    go_ret
    exact ⟨by first | rfl | (simp; done) | (simp [*]; done), by repeat (first | exact Drawn0.refl _ | apply Drawn0.step)⟩
end Go.Proofs.Ytedghbjmhcgilaa.POpt
end
section
namespace Go.Proofs.Ytedghbjmhcgilaa.POpt
open Go.RowKit Go.Proofs.YtedghbjmhcgilaaW.PrintWords Go.Proofs.YtedghbjmhcgilaaW.PrintLast Go.Proofs.YtedghbjmhcgilaaW.PrintMore
attribute [local go_sem] max2_int min2_int max_two min_two max_three min_three max_four min_four
set_option linter.unusedVariables false
set_option linter.unusedSimpArgs false
def cartoucheref13_isMessage.f (l0_0 : List (S30)) (a1 : Int) : Option (Bool) := if a1 ≥ 0 then (if a1 < (l0_0.length : Int) then (if 0 ≤ a1 then (if (((rd_T30 l0_0 a1).f0).length : Int) > 0 then (some true) else (some (decide ((((rd_T30 l0_0 a1).f1).length : Int) > 0)))) else (none)) else (some false)) else (some false)
set_option maxHeartbeats 8000000 in
set_option maxRecDepth 100000 in
theorem cartoucheref13_isMessage.calls (A0_0 : Option Addr) (c0_0 : Nat) (l0_0 : List (S30)) (a1 : Int) (r : Bool) (w : World) (hr0_0 : Kd.C k30 w A0_0 l0_0.length l0_0) (hc0_0 : l0_0.length ≤ c0_0) (h : cartoucheref13_isMessage.f l0_0 a1 = some r) :
  Calls Try.prog 30 #[.agg #[.slice A0_0 l0_0.length c0_0], .int .i64 a1] w fun e w' => e = .returned (.bool r) ∧ Below w.heap.size w w' := by
 have hu24 := Try.underlying24
 have HR0_0 := Aside0.mk hr0_0
 have HC0_0 := Aside0.mk hc0_0
 clear hr0_0 hc0_0
 have HB := Aside0.mk (Below.refl w.heap.size w)
 have H : (if a1 ≥ 0 then (if a1 < (l0_0.length : Int) then (if 0 ≤ a1 then (if (((rd_T30 l0_0 a1).f0).length : Int) > 0 then (some true) else (some (decide ((((rd_T30 l0_0 a1).f1).length : Int) > 0)))) else (none)) else (some false)) else (some false)) = some r := h
 clear h
 by_cases c3 : a1 ≥ 0
 ·rw [if_pos c3] at H
  have c3b0 : decide (0 ≤ a1) = true := decide_eq_true c3
  clear c3
  by_cases c4 : a1 < (l0_0.length : Int)
  ·rw [if_pos c4] at H
   have c4b0 : decide (a1 < (l0_0.length : Int)) = true := decide_eq_true c4
   clear c4
   by_cases c5 : 0 ≤ a1
   ·rw [if_pos c5] at H
    have c5b0 : decide (0 ≤ a1) = true := decide_eq_true c5
    clear c5
    by_cases c6 : (((rd_T30 l0_0 a1).f0).length : Int) > 0
    ·rw [if_pos c6] at H
     have c6b0 : decide (0 < (((rd_T30 l0_0 a1).f0).length : Int)) = true := decide_eq_true c6
     have c6b1 : decide (0 < ((rd_T30 l0_0 a1).f0).length) = true := decide_eq_true (by omega)
     clear c6
     obtain rfl := Option.some.inj H
     go_enter Try.func30, Try.ntmps30
     go_wp2_with (first | ((with_reducible refine gate_dst (N := 2) rfl ?_); (try (refine gate_guard (by rfl) ?_; dsimp only)); refine box_event ?hg (N := 2) ?hd (cs := #[.slice A0_0 l0_0.length c0_0]) (t := 24) ?hr ?_; (case hd => rfl); (case hg => rfl); (case hr => first | (go_simp; done) | (go_simp; rfl)); intro gb226 hg w7 hbox hb; have n0_ := Aside0.mk (below_step (by repeat (first | (with_reducible first | exact HB.out | apply below_alloc | apply pw_below_drewN | apply below_drew1) | exact HB.out)) hb); have n1_ := Aside0.mk (hbox); have n2_ := Aside0.mk ((by rw [hg]; exact (below_size (by repeat (first | (with_reducible first | exact HB.out | apply below_alloc | apply pw_below_drewN | apply below_drew1) | exact HB.out))) : w.heap.size ≤ gb226)); have n3_ := Aside0.mk ((by rw [hg]; exact (below_size (by repeat (first | (with_reducible first | exact HB.out | apply below_alloc | apply pw_below_drewN | apply below_drew1) | exact HB.out))) : w.heap.size ≤ gb226)); clear HB; have HB := n0_; have BK226 := n1_; have GW226 := n2_; have GE226 := n3_; clear n0_ n1_ n2_ n3_; clear hb hbox hg; have hcz8_0 : w7.cell? ⟨gb226, 0, none⟩ = some (.slice A0_0 l0_0.length c0_0) := (blk_cell BK226.out 0).trans rfl; have hfz8_0 := blk_frozen BK226.out 0; have p227 : 0 ≤ (a1 : Int) := of_decide_eq_true (by first | (with_reducible assumption) | assumption); have q227 : a1 < (l0_0.length : Int) := of_decide_eq_true (by first | (with_reducible assumption) | assumption); obtain ⟨ad227, A227_0, c227_0, A227_1, c227_1, A227_2, c227_2, e227, hx227_0, hx227_1, hx227_2, hl227_0, hi227_0, hl227_1, hi227_1, hl227_2, hi227_2⟩ := at_T30 HR0_0.out a1 p227 q227; cases e227; replace hx227_0 := (HB.out.cell (World.block_lt_of_cell? w _ hx227_0)).trans hx227_0; replace hx227_1 := (HB.out.cell (World.block_lt_of_cell? w _ hx227_1)).trans hx227_1; replace hx227_2 := (HB.out.cell (World.block_lt_of_cell? w _ hx227_2)).trans hx227_2; have HR227_0 := Aside0.mk hi227_0; have HC227_0 := Aside0.mk hl227_0; clear hi227_0 hl227_0; have HR227_1 := Aside0.mk hi227_1; have HC227_1 := Aside0.mk hl227_1; clear hi227_1 hl227_1; have HR227_2 := Aside0.mk hi227_2; have HC227_2 := Aside0.mk hl227_2; clear hi227_2 hl227_2; replace p227 := eq_true p227; replace q227 := eq_true q227))
     go_ret
     exact ⟨by first | rfl | (simp [errW_none, errW_some] <;> rfl) | (simp [*, errW_none, errW_some] <;> rfl), by repeat (first | (with_reducible first | exact HB.out | apply below_alloc | apply pw_below_drewN | apply below_drew1 | refine below_set ?_ GE226.out) | exact HB.out)⟩
    ·rw [if_neg c6] at H
     have c6b0 : decide (0 < (((rd_T30 l0_0 a1).f0).length : Int)) = false := decide_eq_false c6
     have c6b1 : decide (0 < ((rd_T30 l0_0 a1).f0).length) = false := decide_eq_false (by omega)
     clear c6
     obtain rfl := Option.some.inj H
     go_enter Try.func30, Try.ntmps30
     go_wp2_with (first | ((with_reducible refine gate_dst (N := 2) rfl ?_); (try (refine gate_guard (by rfl) ?_; dsimp only)); refine box_event ?hg (N := 2) ?hd (cs := #[.slice A0_0 l0_0.length c0_0]) (t := 24) ?hr ?_; (case hd => rfl); (case hg => rfl); (case hr => first | (go_simp; done) | (go_simp; rfl)); intro gb226 hg w9 hbox hb; have n0_ := Aside0.mk (below_step (by repeat (first | (with_reducible first | exact HB.out | apply below_alloc | apply pw_below_drewN | apply below_drew1) | exact HB.out)) hb); have n1_ := Aside0.mk (hbox); have n2_ := Aside0.mk ((by rw [hg]; exact (below_size (by repeat (first | (with_reducible first | exact HB.out | apply below_alloc | apply pw_below_drewN | apply below_drew1) | exact HB.out))) : w.heap.size ≤ gb226)); have n3_ := Aside0.mk ((by rw [hg]; exact (below_size (by repeat (first | (with_reducible first | exact HB.out | apply below_alloc | apply pw_below_drewN | apply below_drew1) | exact HB.out))) : w.heap.size ≤ gb226)); clear HB; have HB := n0_; have BK226 := n1_; have GW226 := n2_; have GE226 := n3_; clear n0_ n1_ n2_ n3_; clear hb hbox hg; have hcz10_0 : w9.cell? ⟨gb226, 0, none⟩ = some (.slice A0_0 l0_0.length c0_0) := (blk_cell BK226.out 0).trans rfl; have hfz10_0 := blk_frozen BK226.out 0; have p227 : 0 ≤ (a1 : Int) := of_decide_eq_true (by first | (with_reducible assumption) | assumption); have q227 : a1 < (l0_0.length : Int) := of_decide_eq_true (by first | (with_reducible assumption) | assumption); obtain ⟨ad227, A227_0, c227_0, A227_1, c227_1, A227_2, c227_2, e227, hx227_0, hx227_1, hx227_2, hl227_0, hi227_0, hl227_1, hi227_1, hl227_2, hi227_2⟩ := at_T30 HR0_0.out a1 p227 q227; cases e227; replace hx227_0 := (HB.out.cell (World.block_lt_of_cell? w _ hx227_0)).trans hx227_0; replace hx227_1 := (HB.out.cell (World.block_lt_of_cell? w _ hx227_1)).trans hx227_1; replace hx227_2 := (HB.out.cell (World.block_lt_of_cell? w _ hx227_2)).trans hx227_2; have HR227_0 := Aside0.mk hi227_0; have HC227_0 := Aside0.mk hl227_0; clear hi227_0 hl227_0; have HR227_1 := Aside0.mk hi227_1; have HC227_1 := Aside0.mk hl227_1; clear hi227_1 hl227_1; have HR227_2 := Aside0.mk hi227_2; have HC227_2 := Aside0.mk hl227_2; clear hi227_2 hl227_2; replace p227 := eq_true p227; replace q227 := eq_true q227; have p228 : 0 ≤ (a1 : Int) := of_decide_eq_true (by first | (with_reducible assumption) | assumption); have q228 : a1 < (l0_0.length : Int) := of_decide_eq_true (by first | (with_reducible assumption) | assumption); obtain ⟨ad228, A228_0, c228_0, A228_1, c228_1, A228_2, c228_2, e228, hx228_0, hx228_1, hx228_2, hl228_0, hi228_0, hl228_1, hi228_1, hl228_2, hi228_2⟩ := at_T30 HR0_0.out a1 p228 q228; obtain rfl : ad227 = ad228 := (by injection e228); replace hx228_0 := (HB.out.cell (World.block_lt_of_cell? w _ hx228_0)).trans hx228_0; replace hx228_1 := (HB.out.cell (World.block_lt_of_cell? w _ hx228_1)).trans hx228_1; replace hx228_2 := (HB.out.cell (World.block_lt_of_cell? w _ hx228_2)).trans hx228_2; have HR228_0 := Aside0.mk hi228_0; have HC228_0 := Aside0.mk hl228_0; clear hi228_0 hl228_0; have HR228_1 := Aside0.mk hi228_1; have HC228_1 := Aside0.mk hl228_1; clear hi228_1 hl228_1; have HR228_2 := Aside0.mk hi228_2; have HC228_2 := Aside0.mk hl228_2; clear hi228_2 hl228_2; replace p228 := eq_true p228; replace q228 := eq_true q228; have ea_ := Option.some.inj (hx227_0.symm.trans hx228_0); injection ea_ with ea_ en_ ec_; subst ea_; subst ec_; clear en_; have ea_ := Option.some.inj (hx227_1.symm.trans hx228_1); injection ea_ with ea_ en_ ec_; subst ea_; subst ec_; clear en_; have ea_ := Option.some.inj (hx227_2.symm.trans hx228_2); injection ea_ with ea_ en_ ec_; subst ea_; subst ec_; clear en_))
     go_ret
     exact ⟨by first | rfl | (simp [errW_none, errW_some] <;> rfl) | (simp [*, errW_none, errW_some] <;> rfl), by repeat (first | (with_reducible first | exact HB.out | apply below_alloc | apply pw_below_drewN | apply below_drew1 | refine below_set ?_ GE226.out) | exact HB.out)⟩
   ·rw [if_neg c5] at H
    exact absurd H (by simp)
  ·rw [if_neg c4] at H
   have c4b0 : decide (a1 < (l0_0.length : Int)) = false := decide_eq_false c4
   clear c4
   obtain rfl := Option.some.inj H
   go_enter Try.func30, Try.ntmps30
   go_wp2_with (first | ((with_reducible refine gate_dst (N := 2) rfl ?_); (try (refine gate_guard (by rfl) ?_; dsimp only)); refine box_event ?hg (N := 2) ?hd (cs := #[.slice A0_0 l0_0.length c0_0]) (t := 24) ?hr ?_; (case hd => rfl); (case hg => rfl); (case hr => first | (go_simp; done) | (go_simp; rfl)); intro gb226 hg w11 hbox hb; have n0_ := Aside0.mk (below_step (by repeat (first | (with_reducible first | exact HB.out | apply below_alloc | apply pw_below_drewN | apply below_drew1) | exact HB.out)) hb); have n1_ := Aside0.mk (hbox); have n2_ := Aside0.mk ((by rw [hg]; exact (below_size (by repeat (first | (with_reducible first | exact HB.out | apply below_alloc | apply pw_below_drewN | apply below_drew1) | exact HB.out))) : w.heap.size ≤ gb226)); have n3_ := Aside0.mk ((by rw [hg]; exact (below_size (by repeat (first | (with_reducible first | exact HB.out | apply below_alloc | apply pw_below_drewN | apply below_drew1) | exact HB.out))) : w.heap.size ≤ gb226)); clear HB; have HB := n0_; have BK226 := n1_; have GW226 := n2_; have GE226 := n3_; clear n0_ n1_ n2_ n3_; clear hb hbox hg; have hcz12_0 : w11.cell? ⟨gb226, 0, none⟩ = some (.slice A0_0 l0_0.length c0_0) := (blk_cell BK226.out 0).trans rfl; have hfz12_0 := blk_frozen BK226.out 0))
   go_ret
   exact ⟨by first | rfl | (simp [errW_none, errW_some] <;> rfl) | (simp [*, errW_none, errW_some] <;> rfl), by repeat (first | (with_reducible first | exact HB.out | apply below_alloc | apply pw_below_drewN | apply below_drew1 | refine below_set ?_ GE226.out) | exact HB.out)⟩
 ·rw [if_neg c3] at H
  have c3b0 : decide (0 ≤ a1) = false := decide_eq_false c3
  clear c3
  obtain rfl := Option.some.inj H
  go_enter Try.func30, Try.ntmps30
  go_wp2_with (first | ((with_reducible refine gate_dst (N := 2) rfl ?_); (try (refine gate_guard (by rfl) ?_; dsimp only)); refine box_event ?hg (N := 2) ?hd (cs := #[.slice A0_0 l0_0.length c0_0]) (t := 24) ?hr ?_; (case hd => rfl); (case hg => rfl); (case hr => first | (go_simp; done) | (go_simp; rfl)); intro gb226 hg w13 hbox hb; have n0_ := Aside0.mk (below_step (by repeat (first | (with_reducible first | exact HB.out | apply below_alloc | apply pw_below_drewN | apply below_drew1) | exact HB.out)) hb); have n1_ := Aside0.mk (hbox); have n2_ := Aside0.mk ((by rw [hg]; exact (below_size (by repeat (first | (with_reducible first | exact HB.out | apply below_alloc | apply pw_below_drewN | apply below_drew1) | exact HB.out))) : w.heap.size ≤ gb226)); have n3_ := Aside0.mk ((by rw [hg]; exact (below_size (by repeat (first | (with_reducible first | exact HB.out | apply below_alloc | apply pw_below_drewN | apply below_drew1) | exact HB.out))) : w.heap.size ≤ gb226)); clear HB; have HB := n0_; have BK226 := n1_; have GW226 := n2_; have GE226 := n3_; clear n0_ n1_ n2_ n3_; clear hb hbox hg))
  go_ret
  exact ⟨by first | rfl | (simp [errW_none, errW_some] <;> rfl) | (simp [*, errW_none, errW_some] <;> rfl), by repeat (first | (with_reducible first | exact HB.out | apply below_alloc | apply pw_below_drewN | apply below_drew1 | refine below_set ?_ GE226.out) | exact HB.out)⟩
end Go.Proofs.Ytedghbjmhcgilaa.POpt
end
section
namespace Go.Proofs.Ytedghbjmhcgilaa.POpt
open Go.RowKit Go.Proofs.YtedghbjmhcgilaaW.PrintWords Go.Proofs.YtedghbjmhcgilaaW.PrintLast Go.Proofs.YtedghbjmhcgilaaW.PrintMore
attribute [local go_sem] max2_int min2_int max_two min_two max_three min_three max_four min_four
set_option linter.unusedVariables false
set_option linter.unusedSimpArgs false
def cartoucheref13_isField.f (a0 : Int) : Option (Bool) := if a0 ≥ 1 then (some (decide (a0 ≤ 536870911))) else (some false)
set_option maxHeartbeats 8000000 in
set_option maxRecDepth 100000 in
theorem cartoucheref13_isField.calls (a0 : Int) (r : Bool) (w : World) (h : cartoucheref13_isField.f a0 = some r) :
  Calls Try.prog 74 #[.int .i64 a0] w fun e w' => e = .returned (.bool r) ∧ Drawn0 w w' := by
 have H : (if a0 ≥ 1 then (some (decide (a0 ≤ 536870911))) else (some false)) = some r := h
 clear h
 by_cases c2 : a0 ≥ 1
 ·rw [if_pos c2] at H
  have c2b0 : decide (1 ≤ a0) = true := decide_eq_true c2
  clear c2
  obtain rfl := Option.some.inj H
  go_enter Try.func74, Try.ntmps74
  go_wp2
  go_ret
  exact ⟨by first | rfl | (simp; done) | (simp [*]; done), by repeat (first | exact Drawn0.refl _ | apply Drawn0.step)⟩
 ·rw [if_neg c2] at H
  have c2b0 : decide (1 ≤ a0) = false := decide_eq_false c2
  clear c2
  obtain rfl := Option.some.inj H
  go_enter Try.func74, Try.ntmps74
  go_wp2
  go_ret
  exact ⟨by first | rfl | (simp; done) | (simp [*]; done), by repeat (first | exact Drawn0.refl _ | apply Drawn0.step)⟩
end Go.Proofs.Ytedghbjmhcgilaa.POpt
end
section
namespace Go.Proofs.Ytedghbjmhcgilaa.POpt
open Go.RowKit Go.Proofs.YtedghbjmhcgilaaW.PrintWords Go.Proofs.YtedghbjmhcgilaaW.PrintLast Go.Proofs.YtedghbjmhcgilaaW.PrintMore
attribute [local go_sem] max2_int min2_int max_two min_two max_three min_three max_four min_four
set_option linter.unusedVariables false
set_option linter.unusedSimpArgs false
def cartoucheref13_isTag.f (a0 : Int) : Option (Bool) := if a0 ≥ 8 then ((cartoucheref13_isField.f (wrap64 (Int.tdiv a0 8))).bind fun t229 => (if t229 = true then (if (Int.tmod a0 8) = 0 then (some true) else (if (Int.tmod a0 8) = 1 then (some true) else (if (Int.tmod a0 8) = 2 then (some true) else (some ((Int.tmod a0 8) == 5))))) else (some false))) else (some false)
set_option maxHeartbeats 8000000 in
set_option maxRecDepth 100000 in
theorem cartoucheref13_isTag.calls (a0 : Int) (r : Bool) (w : World) (h : cartoucheref13_isTag.f a0 = some r) :
  Calls Try.prog 53 #[.int .i64 a0] w fun e w' => e = .returned (.bool r) ∧ Drawn0 w w' := by
 have H : (if a0 ≥ 8 then ((cartoucheref13_isField.f (wrap64 (Int.tdiv a0 8))).bind fun t229 => (if t229 = true then (if (Int.tmod a0 8) = 0 then (some true) else (if (Int.tmod a0 8) = 1 then (some true) else (if (Int.tmod a0 8) = 2 then (some true) else (some ((Int.tmod a0 8) == 5))))) else (some false))) else (some false)) = some r := h
 clear h
 by_cases c2 : a0 ≥ 8
 ·rw [if_pos c2] at H
  have c2b0 : decide (8 ≤ a0) = true := decide_eq_true c2
  clear c2
  replace H := Option.bind_eq_some_iff.mp H
  obtain ⟨t229, A30, H⟩ := H
  replace H : (if t229 = true then (if (Int.tmod a0 8) = 0 then (some true) else (if (Int.tmod a0 8) = 1 then (some true) else (if (Int.tmod a0 8) = 2 then (some true) else (some ((Int.tmod a0 8) == 5))))) else (some false)) = some r := H
  have A3 := Aside0.mk A30
  clear A30
  by_cases c4 : t229 = true
  ·subst c4
   have H1 : (if (Int.tmod a0 8) = 0 then (some true) else (if (Int.tmod a0 8) = 1 then (some true) else (if (Int.tmod a0 8) = 2 then (some true) else (some ((Int.tmod a0 8) == 5))))) = some r := by rw [if_pos rfl] at H; exact H
   clear H
   have H := H1
   clear H1
   by_cases c5 : (Int.tmod a0 8) = 0
   ·rw [if_pos c5] at H
    have c5b0 : ((Int.tmod a0 8) == 0) = true := beq_iff_eq.mpr c5
    have c5b1 : ((Int.tmod a0 8) != 0) = false := bne_eq_false_iff_eq.mpr c5
    clear c5
    obtain rfl := Option.some.inj H
    go_enter Try.func53, Try.ntmps53
    go_wp2_with (first | (go_at_call 74; (with_reducible refine (cartoucheref13_isField.calls (wrap64 (Int.tdiv a0 8)) true _ A3.out).mono ?_); rintro e w' ⟨rfl, ⟨nd, rfl⟩⟩))
    go_ret
    exact ⟨by first | rfl | (simp; done) | (simp [*]; done), by repeat (first | exact Drawn0.refl _ | apply Drawn0.step)⟩
   ·rw [if_neg c5] at H
    have c5b0 : ((Int.tmod a0 8) == 0) = false := beq_eq_false_iff_ne.mpr c5
    have c5b1 : ((Int.tmod a0 8) != 0) = true := bne_iff_ne.mpr c5
    by_cases c6 : (Int.tmod a0 8) = 1
    ·rw [if_pos c6] at H
     have c6b0 : ((Int.tmod a0 8) == 1) = true := beq_iff_eq.mpr c6
     have c6b1 : ((Int.tmod a0 8) != 1) = false := bne_eq_false_iff_eq.mpr c6
     clear c6
     obtain rfl := Option.some.inj H
     go_enter Try.func53, Try.ntmps53
     go_wp2_with (first | (go_at_call 74; (with_reducible refine (cartoucheref13_isField.calls (wrap64 (Int.tdiv a0 8)) true _ A3.out).mono ?_); rintro e w' ⟨rfl, ⟨nd, rfl⟩⟩))
     go_ret
     exact ⟨by first | rfl | (simp; done) | (simp [*]; done), by repeat (first | exact Drawn0.refl _ | apply Drawn0.step)⟩
    ·rw [if_neg c6] at H
     have c6b0 : ((Int.tmod a0 8) == 1) = false := beq_eq_false_iff_ne.mpr c6
     have c6b1 : ((Int.tmod a0 8) != 1) = true := bne_iff_ne.mpr c6
     by_cases c7 : (Int.tmod a0 8) = 2
     ·rw [if_pos c7] at H
      have c7b0 : ((Int.tmod a0 8) == 2) = true := beq_iff_eq.mpr c7
      have c7b1 : ((Int.tmod a0 8) != 2) = false := bne_eq_false_iff_eq.mpr c7
      clear c7
      obtain rfl := Option.some.inj H
      go_enter Try.func53, Try.ntmps53
      go_wp2_with (first | (go_at_call 74; (with_reducible refine (cartoucheref13_isField.calls (wrap64 (Int.tdiv a0 8)) true _ A3.out).mono ?_); rintro e w' ⟨rfl, ⟨nd, rfl⟩⟩))
      go_ret
      exact ⟨by first | rfl | (simp; done) | (simp [*]; done), by repeat (first | exact Drawn0.refl _ | apply Drawn0.step)⟩
     ·rw [if_neg c7] at H
      have c7b0 : ((Int.tmod a0 8) == 2) = false := beq_eq_false_iff_ne.mpr c7
      have c7b1 : ((Int.tmod a0 8) != 2) = true := bne_iff_ne.mpr c7
      obtain rfl := Option.some.inj H
      go_enter Try.func53, Try.ntmps53
      go_wp2_with (first | (go_at_call 74; (with_reducible refine (cartoucheref13_isField.calls (wrap64 (Int.tdiv a0 8)) true _ A3.out).mono ?_); rintro e w' ⟨rfl, ⟨nd, rfl⟩⟩))
      go_ret
      exact ⟨by first | rfl | (simp; done) | (simp [*]; done), by repeat (first | exact Drawn0.refl _ | apply Drawn0.step)⟩
  ·replace c4 := Bool.eq_false_iff.mpr c4
   subst c4
   have H1 : (some false) = some r := by rw [if_neg (show ¬ (false = true) by decide)] at H; exact H
   clear H
   have H := H1
   clear H1
   obtain rfl := Option.some.inj H
   go_enter Try.func53, Try.ntmps53
   go_wp2_with (first | (go_at_call 74; (with_reducible refine (cartoucheref13_isField.calls (wrap64 (Int.tdiv a0 8)) false _ A3.out).mono ?_); rintro e w' ⟨rfl, ⟨nd, rfl⟩⟩))
   go_ret
   exact ⟨by first | rfl | (simp; done) | (simp [*]; done), by repeat (first | exact Drawn0.refl _ | apply Drawn0.step)⟩
 ·rw [if_neg c2] at H
  have c2b0 : decide (8 ≤ a0) = false := decide_eq_false c2
  clear c2
  obtain rfl := Option.some.inj H
  go_enter Try.func53, Try.ntmps53
  go_wp2
  go_ret
  exact ⟨by first | rfl | (simp; done) | (simp [*]; done), by repeat (first | exact Drawn0.refl _ | apply Drawn0.step)⟩
end Go.Proofs.Ytedghbjmhcgilaa.POpt
end
