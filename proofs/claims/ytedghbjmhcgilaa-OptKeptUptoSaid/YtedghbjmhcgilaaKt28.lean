import Derived.Test.YtedghbjmhcgilaaRows
import Derived.WalkKit
import Derived.ProofKit
import Derived.OpenShut
import Derived.ChangeOld
import Derived.Carry
import Derived.Deep.Slices
import Derived.JoinedCond
import Derived.KernelRfl
import Derived.Test.YtedghbjmhcgilaaKt4
import Derived.Test.YtedghbjmhcgilaaKt14
import Derived.Test.YtedghbjmhcgilaaKt20
import Derived.Test.YtedghbjmhcgilaaKt26
import Derived.Test.YtedghbjmhcgilaaKt27
section
namespace Go.Proofs.Ytedghbjmhcgilaa.A
open Go.RowKit Go.Proofs.YtedghbjmhcgilaaW.PrintWords Go.Proofs.YtedghbjmhcgilaaW.PrintLast Go.Proofs.YtedghbjmhcgilaaW.PrintMore
open Go.Proofs.Ytedghbjmhcgilaa.POpt
open Go.ChangeShapes Go.WideShapes Go.ChangeAt Go.Deep
set_option linter.unusedVariables false
set_option linter.unusedSimpArgs false
def fit5 (x : S35) : Prop := wfI x.f0 ∧ wfI x.f1 ∧ wfI x.f2 ∧ wfI x.f3 ∧ wfI x.f4
def fit2 (x : S37) : Prop := wfI x.f0 ∧ wfI x.f1
structure FitB (b : S30) : Prop where
  n0 : b.f0.length ≤ 1048576
  n1 : b.f1.length ≤ 1048576
  n2 : b.f2.length ≤ 1048576
  w0 : ∀ x ∈ b.f0, fit5 x
  w1 : ∀ x ∈ b.f1, fit5 x
  w2 : ∀ x ∈ b.f2, fit2 x
theorem bulk_one {H : Type} (d : DataW H) : 1 ≤ Rows.uptoBulk d := by
  cases d with
  | lit l => cases l <;> simp [Rows.uptoBulk]
  | nil => simp [Rows.uptoBulk]
  | ptr d => simp [Rows.uptoBulk]
  | slice elems spare => simp [Rows.uptoBulk]
  | agg parts => simp [Rows.uptoBulk]
  | iface t d => simp [Rows.uptoBulk]
  | map entries => simp [Rows.uptoBulk]
  | held h => simp [Rows.uptoBulk]
theorem bulk_mem {H : Type} {d : DataW H} : ∀ {l : List (DataW H)}, d ∈ l → Rows.uptoBulk d ≤ Rows.uptoBulkAll l
  | x :: r, h => by
    simp only [Rows.uptoBulkAll]
    rcases List.mem_cons.1 h with e | e
    · subst e; omega
    · have := bulk_mem e; omega
theorem bulk_len {H : Type} : ∀ (l : List (DataW H)), l.length ≤ Rows.uptoBulkAll l
  | [] => by simp
  | x :: r => by have := bulk_one x; have := bulk_len r; simp only [Rows.uptoBulkAll, List.length_cons]; omega
section
variable {H : Type} {enc : TypeId × Value → H} {W : World} {spare : Nat → Bool} {held : Bool}
theorem read_int {fuel : Nat} {v : Value} {x : DataW H × List MemPlace} (h : DataW.trod enc Try.prog W 0 spare held fuel 3 [v] = some x) : ∃ n : Int, v = .int .i64 n ∧ wfI n := by
  obtain ⟨n, h1, _, h2⟩ := DataW.trod_int Try.underlying3 h
  injection h1 with h1
  exact ⟨n, h1, h2⟩
set_option maxRecDepth 100000 in
theorem read_step {fuel : Nat} {cs : List Value} {x : DataW H × List MemPlace} (h : DataW.trod enc Try.prog W 0 spare held fuel 35 cs = some x) : ∃ s : S35, cs = [.int .i64 s.f0, .int .i64 s.f1, .int .i64 s.f2, .int .i64 s.f3, .int .i64 s.f4] ∧ fit5 s := by
  obtain ⟨xs, n, _, _, hl, hlen, hf⟩ := DataW.trod_struct Try.underlying35 h
  have hc : Try.prog.cellsOf 35 = 5 := by kernel_rfl
  have hc3 : Try.prog.cellsOf 3 = 1 := by kernel_rfl
  rw [hc] at hl
  match cs, hl with
  | [c0, c1, c2, c3, c4], _ =>
    match xs, hlen with
    | [y0, y1, y2, y3, y4], _ =>
      have g0 : DataW.trod enc Try.prog W 0 spare held n 3 (([c0, c1, c2, c3, c4].drop 0).take (Try.prog.cellsOf 3)) = some y0 := hf 0 _ rfl
      have g1 : DataW.trod enc Try.prog W 0 spare held n 3 (([c0, c1, c2, c3, c4].drop 1).take (Try.prog.cellsOf 3)) = some y1 := hf 1 _ rfl
      have g2 : DataW.trod enc Try.prog W 0 spare held n 3 (([c0, c1, c2, c3, c4].drop 2).take (Try.prog.cellsOf 3)) = some y2 := hf 2 _ rfl
      have g3 : DataW.trod enc Try.prog W 0 spare held n 3 (([c0, c1, c2, c3, c4].drop 3).take (Try.prog.cellsOf 3)) = some y3 := hf 3 _ rfl
      have g4 : DataW.trod enc Try.prog W 0 spare held n 3 (([c0, c1, c2, c3, c4].drop 4).take (Try.prog.cellsOf 3)) = some y4 := hf 4 _ rfl
      rw [hc3] at g0 g1 g2 g3 g4
      obtain ⟨n0, rfl, k0⟩ := read_int (x := y0) g0
      obtain ⟨n1, rfl, k1⟩ := read_int (x := y1) g1
      obtain ⟨n2, rfl, k2⟩ := read_int (x := y2) g2
      obtain ⟨n3, rfl, k3⟩ := read_int (x := y3) g3
      obtain ⟨n4, rfl, k4⟩ := read_int (x := y4) g4
      exact ⟨⟨n0, n1, n2, n3, n4⟩, rfl, k0, k1, k2, k3, k4⟩
set_option maxRecDepth 100000 in
theorem read_line {fuel : Nat} {cs : List Value} {x : DataW H × List MemPlace} (h : DataW.trod enc Try.prog W 0 spare held fuel 37 cs = some x) : ∃ s : S37, cs = [.int .i64 s.f0, .int .i64 s.f1] ∧ fit2 s := by
  obtain ⟨xs, n, _, _, hl, hlen, hf⟩ := DataW.trod_struct Try.underlying37 h
  have hc : Try.prog.cellsOf 37 = 2 := by kernel_rfl
  have hc3 : Try.prog.cellsOf 3 = 1 := by kernel_rfl
  rw [hc] at hl
  match cs, hl with
  | [c0, c1], _ =>
    match xs, hlen with
    | [y0, y1], _ =>
      have g0 : DataW.trod enc Try.prog W 0 spare held n 3 (([c0, c1].drop 0).take (Try.prog.cellsOf 3)) = some y0 := hf 0 _ rfl
      have g1 : DataW.trod enc Try.prog W 0 spare held n 3 (([c0, c1].drop 1).take (Try.prog.cellsOf 3)) = some y1 := hf 1 _ rfl
      rw [hc3] at g0 g1
      obtain ⟨n0, rfl, k0⟩ := read_int (x := y0) g0
      obtain ⟨n1, rfl, k1⟩ := read_int (x := y1) g1
      exact ⟨⟨n0, n1⟩, rfl, k0, k1⟩
theorem read_row {α : Type} [Inhabited α] (d : Kd α) {t e : TypeId} {Q : α → Prop} (ht : Try.prog.underlying t = some (.slice e)) (hc : Try.prog.cellsOf e = d.sz)
    (hr : ∀ (n : Nat) (cs : List Value) (y : DataW H × List MemPlace), Rows.uptoBulk y.1 ≤ 1048576 → DataW.trod enc Try.prog W 0 spare held n e cs = some y → ∃ s : α, d.K W s cs ∧ Q s)
    {fuel : Nat} {v : Value} {x : DataW H × List MemPlace} (hb : Rows.uptoBulk x.1 ≤ 1048576) (h : DataW.trod enc Try.prog W 0 spare held fuel t [v] = some x) :
    ∃ (A : Option Addr) (c : Nat) (xs : List α), v = .slice A xs.length c ∧ xs.length ≤ c ∧ Kd.C d W A xs.length xs ∧ xs.length ≤ 1048576 ∧ ∀ s ∈ xs, Q s := by
  rcases open_slice ht h with ⟨h0, _⟩ | ⟨a, len, cap, m, n, D, Pl, hcs, _, hl, hm, hmm, hx, hi⟩
  · injection h0 with h0
    exact ⟨none, 0, [], h0, by simp, ⟨rfl, by simp, fun h => absurd h (by simp)⟩, by simp, by simp⟩
  · injection hcs with hcs
    have hlm : len ≤ m := by rw [hmm]; split <;> omega
    rw [hx] at hb
    have hbulk : len + Rows.uptoBulkAll ((List.range len).map D) ≤ 1048576 + Rows.uptoBulkAll ((List.range len).map D) := by
      have h1 := bulk_len ((List.range len).map D)
      simp only [Rows.uptoBulk] at hb
      simp only [List.length_map, List.length_range] at h1
      omega
    have hlen : len ≤ 1048576 := by omega
    have hD : ∀ i, i < len → Rows.uptoBulk (D i) ≤ 1048576 := fun i hi => by
      have h1 := bulk_mem (d := D i) (l := (List.range len).map D) (List.mem_map.2 ⟨i, List.mem_range.2 hi, rfl⟩)
      simp only [Rows.uptoBulk] at hb
      omega
    obtain ⟨f, hf⟩ := choose_lt (α := α) (n := len) (p := fun i s => Q s ∧ ∃ cs, d.K W s cs ∧ W.cells? 0 (a.add (i * d.sz)) d.sz = some cs) (fun i hi2 => by
      obtain ⟨cs', h1, h2⟩ := hi i (by omega)
      obtain ⟨s, h3, h4⟩ := hr n cs' _ (hD i hi2) h2
      rw [hc] at h1
      exact ⟨s, h4, cs', h3, h1⟩)
    have hxl : ((List.range len).map f).length = len := by simp
    refine ⟨some a, cap, (List.range len).map f, by rw [hxl]; exact hcs, by rw [hxl]; exact hl, ⟨rfl, by rw [hxl]; omega, fun _ => ⟨a, rfl, fun j p hj => ?_⟩⟩, by rw [hxl]; exact hlen, fun s hs => ?_⟩
    · have hjl : j < len := by have := (List.getElem?_eq_some_iff.1 hj).1; rw [hxl] at this; exact this
      obtain ⟨hq, cs, hk, hcl⟩ := hf j hjl
      have hp : f j = p := by
        rw [List.getElem?_map, List.getElem?_range hjl] at hj
        simpa using hj
      subst hp
      obtain ⟨_, hlc, hat⟩ := World.cells?_some hcl
      refine ⟨cs, hlc, hk, fun i u hi3 => ?_⟩
      have hlt : i < d.sz := by rw [← hlc]; exact (List.getElem?_eq_some_iff.1 hi3).1
      rw [← Go.Deep.add_add, hat i hlt]
      exact hi3
    · obtain ⟨i, hi2, rfl⟩ := List.mem_map.1 hs
      exact (hf i (List.mem_range.1 hi2)).1
instance : Inhabited S35 := ⟨z35⟩
instance : Inhabited S37 := ⟨z37⟩
instance : Inhabited S30 := ⟨z30⟩
set_option maxRecDepth 100000 in
theorem read_block {fuel : Nat} {cs : List Value} {x : DataW H × List MemPlace} (hb : Rows.uptoBulk x.1 ≤ 1048576) (h : DataW.trod enc Try.prog W 0 spare held fuel 30 cs = some x) : ∃ s : S30, k30.K W s cs ∧ FitB s := by
  obtain ⟨xs, n, _, hx, hl, hlen, hf⟩ := DataW.trod_struct Try.underlying30 h
  have hc : Try.prog.cellsOf 30 = 3 := by kernel_rfl
  have hc27 : Try.prog.cellsOf 27 = 1 := by kernel_rfl
  have hc28 : Try.prog.cellsOf 28 = 1 := by kernel_rfl
  have hc35 : Try.prog.cellsOf 35 = 5 := by kernel_rfl
  have hc37 : Try.prog.cellsOf 37 = 2 := by kernel_rfl
  rw [hc] at hl
  match cs, hl with
  | [c0, c1, c2], _ =>
    match xs, hlen with
    | [y0, y1, y2], _ =>
      have g0 : DataW.trod enc Try.prog W 0 spare held n 27 (([c0, c1, c2].drop 0).take (Try.prog.cellsOf 27)) = some y0 := hf 0 _ rfl
      have g1 : DataW.trod enc Try.prog W 0 spare held n 27 (([c0, c1, c2].drop 1).take (Try.prog.cellsOf 27)) = some y1 := hf 1 _ rfl
      have g2 : DataW.trod enc Try.prog W 0 spare held n 28 (([c0, c1, c2].drop 2).take (Try.prog.cellsOf 28)) = some y2 := hf 2 _ rfl
      rw [hx] at hb
      simp only [Rows.uptoBulk, List.map_cons, List.map_nil, Rows.uptoBulkAll] at hb
      rw [hc27] at g0 g1
      rw [hc28] at g2
      have hr5 : ∀ (n : Nat) (cs : List Value) (y : DataW H × List MemPlace), Rows.uptoBulk y.1 ≤ 1048576 → DataW.trod enc Try.prog W 0 spare held n 35 cs = some y → ∃ s : S35, k35.K W s cs ∧ fit5 s := fun n cs y _ hy => by
        obtain ⟨s, rfl, hs⟩ := read_step hy
        exact ⟨s, k35_mk W s, hs⟩
      have hr7 : ∀ (n : Nat) (cs : List Value) (y : DataW H × List MemPlace), Rows.uptoBulk y.1 ≤ 1048576 → DataW.trod enc Try.prog W 0 spare held n 37 cs = some y → ∃ s : S37, k37.K W s cs ∧ fit2 s := fun n cs y _ hy => by
        obtain ⟨s, rfl, hs⟩ := read_line hy
        exact ⟨s, k37_mk W s, hs⟩
      obtain ⟨A0, d0, l0, rfl, m0, r0, z0, w0⟩ := read_row k35 Try.underlying27 hc35 hr5 (x := y0) (by omega) g0
      obtain ⟨A1, d1, l1, rfl, m1, r1, z1, w1⟩ := read_row k35 Try.underlying27 hc35 hr5 (x := y1) (by omega) g1
      obtain ⟨A2, d2, l2, rfl, m2, r2, z2, w2⟩ := read_row k37 Try.underlying28 hc37 hr7 (x := y2) (by omega) g2
      exact ⟨⟨l0, l1, l2⟩, k30_mk W ⟨l0, l1, l2⟩ m0 r0 m1 r1 m2 r2, ⟨z0, z1, z2, w0, w1, w2⟩⟩
set_option maxRecDepth 100000 in
theorem read_program {v : Value} {d : DataW H} {p : List MemPlace} {r : Reach} {b0 : Nat} (hv : Value.okWide Try.prog W r b0 24 v) (hb : Rows.uptoBulk d ≤ 1048576) (h : DataW.Trod enc Try.prog W 0 spare held 24 v d p) :
    ∃ (A : Option Addr) (c : Nat) (bs : List S30), v = .agg #[.slice A bs.length c] ∧ bs.length ≤ c ∧ Kd.C k30 W A bs.length bs ∧ bs.length ≤ 1048576 ∧ ∀ b ∈ bs, FitB b := by
  obtain ⟨cs, rfl, hsz⟩ := okWide_struct Try.underlying24 hv
  have hc : Try.prog.cellsOf 24 = 1 := by kernel_rfl
  have hc22 : Try.prog.cellsOf 22 = 1 := by kernel_rfl
  have hc30 : Try.prog.cellsOf 30 = 3 := by kernel_rfl
  rw [hc] at hsz
  obtain ⟨l⟩ := cs
  match l, hsz with
  | [c0], _ =>
    obtain ⟨fuel, hf⟩ := h
    obtain ⟨xs, n, _, hx, hl, hlen, hff⟩ := DataW.trod_struct Try.underlying24 hf
    match xs, hlen with
    | [y0], _ =>
      have g0 : DataW.trod enc Try.prog W 0 spare held n 22 ((((Value.agg #[c0]).cells.toList).drop 0).take (Try.prog.cellsOf 22)) = some y0 := hff 0 _ rfl
      rw [hc22] at g0
      have hd : d = .agg [y0.1] := by have := congrArg Prod.fst hx; simpa using this
      rw [hd] at hb
      simp only [Rows.uptoBulk, Rows.uptoBulkAll] at hb
      have g0' : DataW.trod enc Try.prog W 0 spare held n 22 [c0] = some y0 := by simpa [Value.cells] using g0
      obtain ⟨A0, d0, l0, rfl, m0, r0, z0, w0⟩ := read_row k30 Try.underlying22 hc30 (fun n cs y hy h => read_block hy h) (x := y0) (by omega) g0'
      exact ⟨A0, d0, l0, rfl, m0, r0, z0, w0⟩
end
end Go.Proofs.Ytedghbjmhcgilaa.A
end
section
namespace Go.Proofs.Ytedghbjmhcgilaa.A
open Go.RowKit Go.Proofs.YtedghbjmhcgilaaW.PrintWords Go.Proofs.YtedghbjmhcgilaaW.PrintLast Go.Proofs.YtedghbjmhcgilaaW.PrintMore
open Go.Proofs.Ytedghbjmhcgilaa.POpt
set_option linter.unusedVariables false
set_option linter.unusedSimpArgs false
section
variable (a b : List S35) (c : List S37)
theorem same_l2 (hc : c.length ≤ 1048576) (p : Nat) : ∀ i : Nat, i + p = c.length → cartoucheref13_SameBlock.l2 (p + 1) (i : Int) a b c a b c = some true := by
  induction p with
  | zero => intro i hi; rw [cartoucheref13_SameBlock.l2, if_neg (by omega)]
  | succ p ih =>
    intro i hi
    rw [cartoucheref13_SameBlock.l2, if_pos (by omega), if_pos (by omega), if_pos (by omega), if_neg (by simp), show wrap64 ((i : Int) + 1) = ((i + 1 : Nat) : Int) by rw [w64i (by omega)]; omega]
    exact ih (i + 1) (by omega)
theorem same_l1 (hb : b.length ≤ 1048576) (hc : c.length ≤ 1048576) (p : Nat) : ∀ i : Nat, i + p = b.length → cartoucheref13_SameBlock.l1 (p + (c.length + 1) + 1) (i : Int) a b c a b c = some true := by
  induction p with
  | zero =>
    intro i hi
    rw [cartoucheref13_SameBlock.l1, if_neg (by omega)]
    have := same_l2 a b c hc c.length 0 (by omega)
    rw [Nat.zero_add]; exact this
  | succ p ih =>
    intro i hi
    rw [cartoucheref13_SameBlock.l1, if_pos (by omega), if_pos (by omega), if_pos (by omega), if_neg (by simp), show wrap64 ((i : Int) + 1) = ((i + 1 : Nat) : Int) by rw [w64i (by omega)]; omega]
    have := ih (i + 1) (by omega)
    rw [show p + 1 + (c.length + 1) = p + (c.length + 1) + 1 by omega]; exact this
theorem same_l0 (ha : a.length ≤ 1048576) (hb : b.length ≤ 1048576) (hc : c.length ≤ 1048576) (p : Nat) : ∀ i : Nat, i + p = a.length → cartoucheref13_SameBlock.l0 (p + (b.length + (c.length + 1) + 1) + 1) (i : Int) a b c a b c = some true := by
  induction p with
  | zero =>
    intro i hi
    rw [cartoucheref13_SameBlock.l0, if_neg (by omega)]
    have := same_l1 a b c hb hc b.length 0 (by omega)
    rw [Nat.zero_add]; exact this
  | succ p ih =>
    intro i hi
    rw [cartoucheref13_SameBlock.l0, if_pos (by omega), if_pos (by omega), if_pos (by omega), if_neg (by simp), show wrap64 ((i : Int) + 1) = ((i + 1 : Nat) : Int) by rw [w64i (by omega)]; omega]
    have := ih (i + 1) (by omega)
    rw [show p + 1 + (b.length + (c.length + 1) + 1) = p + (b.length + (c.length + 1) + 1) + 1 by omega]; exact this
theorem same_refl (ha : a.length ≤ 1048576) (hb : b.length ≤ 1048576) (hc : c.length ≤ 1048576) : ∃ k, cartouchelaw14_same.f k a b c a b c = some true := by
  refine ⟨a.length + (b.length + (c.length + 1) + 1) + 1 + 1, ?_⟩
  unfold cartouchelaw14_same.f cartoucheref13_SameBlock.f
  rw [if_pos rfl, if_pos rfl, cartoucheref13_SameBlock.j0, if_neg (by simp)]
  have := same_l0 a b c ha hb hc a.length 0 (by omega)
  simp only [Int.natCast_zero] at this
  rw [this]; rfl
end
theorem isTag_small {a : Int} (ha : a ≤ 9223372036854775807) (h : N.isTagB a = true) : 0 ≤ a ∧ a ≤ 4611686018427387904 := by
  have h1 := N.isTagB_f a
  rw [h] at h1
  unfold cartoucheref13_isTag.f at h1
  split at h1
  · next h8 =>
    refine ⟨by omega, ?_⟩
    have hd : Int.tdiv a 8 = a / 8 := Int.tdiv_eq_ediv_of_nonneg (by omega)
    rw [hd, w64i (by omega), N.isFieldB_f] at h1
    simp only [Option.bind_some] at h1
    split at h1
    · next hf =>
      unfold N.isFieldB at hf
      simp only [Bool.and_eq_true, decide_eq_true_eq] at hf
      omega
    · cases h1
  · cases h1
theorem tag_ok {bs : List S30} {l : List S35} (hw : ∀ x ∈ l, wfI x.f1) (h : ∀ x ∈ l, numS bs x = true) : tagB l = true := by
  rw [tagB_iff]
  intro x hx h2
  have h1 := h x hx
  unfold numS N.numB at h1
  split at h1
  · cases h1
  · unfold N.bodyB at h1
    rw [if_pos h2] at h1
    exact isTag_small (wf_in (hw x hx)).2 h1
end Go.Proofs.Ytedghbjmhcgilaa.A
end
section
namespace Go.Proofs.Ytedghbjmhcgilaa.A
open Go.RowKit Go.Proofs.YtedghbjmhcgilaaW.PrintWords Go.Proofs.YtedghbjmhcgilaaW.PrintLast Go.Proofs.YtedghbjmhcgilaaW.PrintMore
open Go.Proofs.Ytedghbjmhcgilaa.POpt
set_option linter.unusedVariables false
set_option linter.unusedSimpArgs false
def lowD : List S35 := [⟨1, 0, 0, 0, 0⟩, ⟨2, 8, 5, 0, 0⟩, ⟨5, 2, 0, 0, 0⟩, ⟨7, 1, 0, 0, 0⟩, ⟨4, 0, 0, 0, 0⟩, ⟨2, 16, 9, 0, 0⟩, ⟨5, 4, 0, 0, 0⟩, ⟨8, 2, 0, 0, 0⟩, ⟨4, 0, 0, 0, 0⟩, ⟨2, 18, 12, 0, 0⟩, ⟨11, 2, 4, 0, 0⟩, ⟨4, 0, 0, 0, 0⟩, ⟨2, 26, 15, 0, 0⟩, ⟨10, 3, 1, 0, 0⟩, ⟨4, 0, 0, 0, 0⟩, ⟨13, 0, 0, 0, 0⟩, ⟨4, 0, 0, 0, 0⟩]
def lowE : List S35 := [⟨16, 1, 3, 2, 0⟩, ⟨17, 8, 0, 0, 0⟩, ⟨18, 2, 0, 0, 0⟩, ⟨16, 2, 5, 0, 0⟩, ⟨21, 18, 4, 0, 0⟩, ⟨16, 3, 8, 0, 0⟩, ⟨17, 26, 0, 0, 0⟩, ⟨19, 1, 0, 0, 0⟩, ⟨23, 0, 0, 0, 0⟩, ⟨24, 0, 0, 0, 0⟩]
def betD : List S35 := [⟨1, 0, 0, 0, 0⟩, ⟨3, 10, 0, 0, 0⟩, ⟨14, 2, 1, 0, 0⟩, ⟨4, 0, 0, 0, 0⟩, ⟨15, 4, 2, 0, 0⟩, ⟨4, 0, 0, 0, 0⟩, ⟨11, 2, 4, 0, 0⟩, ⟨4, 0, 0, 0, 0⟩, ⟨10, 3, 1, 0, 0⟩, ⟨4, 0, 0, 0, 0⟩, ⟨13, 0, 0, 0, 0⟩, ⟨4, 0, 0, 0, 0⟩]
def betE : List S35 := [⟨16, 1, 2, 2, 0⟩, ⟨25, 8, 2, 0, 0⟩, ⟨16, 2, 4, 0, 0⟩, ⟨21, 18, 4, 0, 0⟩, ⟨16, 3, 7, 0, 0⟩, ⟨17, 26, 0, 0, 0⟩, ⟨19, 1, 0, 0, 0⟩, ⟨23, 0, 0, 0, 0⟩, ⟨24, 0, 0, 0, 0⟩]
def betR : List S37 := [⟨8, 2⟩, ⟨16, 4⟩, ⟨18, 6⟩, ⟨26, 8⟩]
theorem low_f : cartouchelaw13_Lowered.f = some (lowD, lowE, []) := rfl
theorem better_f : cartouchelaw14_Better.f = some (betD, betE, betR) := rfl
theorem sortRows_rising {R : List S37} (h : Rising R) : sortRows R = R := by
  have ho : Once R := h.imp (fun hxy => by omega)
  exact rising_unique (rising_sort ho) h (fun x => mem_sortRows)
def tabD : List S35 := lowD.set 1 ⟨3, 15, 0, 0, 0⟩
def tabR : List S37 := [⟨8, 2⟩, ⟨16, 6⟩, ⟨18, 10⟩, ⟨26, 13⟩]
theorem low_tables : TablesF lowD lowE [] = some (tabD, lowE, tabR) := by
  have h1 : okB lowD lowE [] = true := by kernel_rfl
  have h2 : tagB lowD = true := by kernel_rfl
  unfold TablesF
  rw [if_pos h1, if_pos h2]
  have h3 : tabGo lowD lowD.length [] 1 = (tabR, 15) := by kernel_rfl
  unfold tabP
  rw [if_neg (by decide), h3]
  have h4 : Rising tabR := by unfold Rising tabR; simp
  rw [sortRows_rising h4]
  rfl
theorem low_fuse : FuseF tabD lowE tabR = some ((fuseP tabD tabR).1, (fuseP lowE []).1, (fuseP tabD tabR).2) ∧ ThreadF (fuseP tabD tabR).1 (fuseP lowE []).1 (fuseP tabD tabR).2 = some ((fuseP tabD tabR).1.map (placed (thr (fuseP tabD tabR).1)), (fuseP lowE []).1, (fuseP tabD tabR).2.map (placedR (thr (fuseP tabD tabR).1))) ∧
    TrimF 200 ((fuseP tabD tabR).1.map (placed (thr (fuseP tabD tabR).1))) (fuseP lowE []).1 ((fuseP tabD tabR).2.map (placedR (thr (fuseP tabD tabR).1))) = some (betD, betE, betR) := by
  refine ⟨?_, ?_, ?_⟩
  · unfold FuseF; rw [if_pos (by kernel_rfl)]
  · unfold ThreadF; rw [if_pos (by kernel_rfl)]
  · kernel_rfl
theorem low_block : opt_Block.f 200 lowD lowE [] = some (betD, betE, betR) := by
  show BlockF 200 lowD lowE [] = _
  unfold BlockF
  obtain ⟨h1, h2, h3⟩ := low_fuse
  rw [low_tables]
  simp only [Option.bind_some]
  rw [h1]
  simp only [Option.bind_some]
  rw [h2]
  simp only [Option.bind_some]
  exact h3
theorem awake_true : cartouchelaw14_awake.f 200 = some true := by
  unfold cartouchelaw14_awake.f
  rw [low_f]
  simp only [Option.bind_some]
  rw [low_block]
  simp only [Option.bind_some]
  rw [better_f]
  simp only [Option.bind_some]
  have h : cartouchelaw14_same.f 200 betD betE betR betD betE betR = some true := by kernel_rfl
  rw [h]
  rfl
end Go.Proofs.Ytedghbjmhcgilaa.A
end
section
namespace Go.Proofs.Ytedghbjmhcgilaa.A
open Go.RowKit Go.Proofs.YtedghbjmhcgilaaW.PrintWords Go.Proofs.YtedghbjmhcgilaaW.PrintLast Go.Proofs.YtedghbjmhcgilaaW.PrintMore
open Go.Proofs.Ytedghbjmhcgilaa.POpt
set_option linter.unusedVariables false
set_option linter.unusedSimpArgs false
theorem kept_all (A : Option Addr) (c : Nat) (bs : List S30) (index : Int) (w : World) (hr : Kd.C k30 w A bs.length bs) (hc : bs.length ≤ c) (hn : bs.length ≤ 1048576) (hf : ∀ b ∈ bs, FitB b) :
    Calls Try.prog 4 #[.agg #[.slice A bs.length c], .int .i64 index] w fun e w' => e = .returned (.bool true) ∧ Below w.heap.size w w' := by
  obtain ⟨kv, r, hk, hv⟩ := valid_total bs hn (fun b hb => ⟨(hf b hb).n0, (hf b hb).n1, (hf b hb).n2⟩)
  cases hr0 : r with
  | false => exact kept_out A c bs index w hr hc 200 awake_true kv r hk (.inl hr0)
  | true =>
    by_cases hneg : index < 0
    · exact kept_out A c bs index w hr hc 200 awake_true kv r hk (.inr ⟨hr0, .inl hneg⟩)
    by_cases hge : (bs.length : Int) ≤ index
    · exact kept_out A c bs index w hr hc 200 awake_true kv r hk (.inr ⟨hr0, .inr ⟨by omega, hge⟩⟩)
    obtain ⟨i, rfl⟩ : ∃ i : Nat, index = (i : Int) := ⟨index.toNat, by omega⟩
    have hi : i < bs.length := by omega
    have e : rd_T30 bs (i : Int) = bs[i] := by simp [rd_T30, hi]
    have F := hf _ (List.getElem_mem hi)
    have O := hv hr0 _ (List.getElem_mem hi)
    generalize bs[i] = b at e F O
    have hPB : PB (b.f0, b.f1, b.f2) := ⟨F.n0, F.n1, F.n2, fun x hx => ⟨(F.w0 x hx).2.1, (F.w0 x hx).2.2.1⟩, fun x hx => ⟨(F.w1 x hx).2.1, (F.w1 x hx).2.2.1⟩, fun y hy => (F.w2 y hy).2⟩
    have hT : tagB b.f0 = true := by
      rcases O.or with ⟨_, hd, _⟩ | ⟨h0, _⟩
      · exact tag_ok (fun x hx => (F.w0 x hx).2.1) hd.num
      · rw [tagB_iff]
        intro x hx
        have := List.length_pos_of_mem hx
        omega
    obtain ⟨rT, rF, rH, rM, rB, kt, kb, a1, a2, a3, a4, a5, hs⟩ := passes_some hPB hT
    obtain ⟨ks, hsm⟩ := same_refl b.f0 b.f1 b.f2 F.n0 F.n1 F.n2
    exact kept_in A c bs i w hr hc 200 awake_true kv (hr0 ▸ hk) hi b.f0 b.f1 b.f2 e F.n0 F.n1 F.n2 rT rF rH rM rB kt kb ks a1 a2 a3 a4 a5 (hs _ (.inl rfl)) (hs _ (.inr (.inl rfl))) (hs _ (.inr (.inr (.inl rfl)))) (hs _ (.inr (.inr (.inr (.inl rfl))))) (hs _ (.inr (.inr (.inr (.inr rfl))))) hsm
end Go.Proofs.Ytedghbjmhcgilaa.A
end
