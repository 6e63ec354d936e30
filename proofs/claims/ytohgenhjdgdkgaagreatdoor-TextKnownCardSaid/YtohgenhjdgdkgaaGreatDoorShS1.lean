import Derived.Test.YtohgenhjdgdkgaaGreatDoorShS0
namespace Go.Proofs.YtohgenhjdgdkgaaGreatDoor.Sh
open Go.RowKit
set_option linter.unusedVariables false
set_option linter.unusedSimpArgs false

structure ABlk where
  cs : List Value
  ty : TypeId
  esz : Nat
  fam : Nat
  abs : Nat
  ro : Bool
  ex : Bool
/-- A loop over a function: its record; 'df' is the block of its deferred calls (none are made). -/
structure ALoop where
  st : LoopState
  pend : Option Code
  tm : F Value
  nt : Nat
  ps : Array Tmp
  asg : Code
  bd : Code
  df : Nat
inductive AObj where
  | gone
  | cells (B : ABlk)
  | map (es : List MapEntry) (clock : Nat)
  | strIter (s : ByteArray) (pos : Nat)
  | loop (L : ALoop)
  | dfr
structure AH where
  next : Nat
  g0 : Nat
  objs : T AObj
  live : T (List Nat)
noncomputable def AH.obj (H : AH) (b : Nat) : AObj := H.objs.get .gone b
noncomputable def AH.mem (H : AH) (f : Nat) : List Nat := H.live.get [] f
noncomputable def oneCell : Value → Bool
  | .agg _ | .tuple _ => false
  | _ => true
theorem VRel.oneCell {γ : Nat → G} {n : Nat} {v v' : Value} (h : VRel γ n v v') : Sh.oneCell v' = Sh.oneCell v := by cases h <;> rfl
noncomputable def ERel (γ : Nat → G) (n : Nat) (e e' : MapEntry) : Prop := VRel γ n e.key e'.key ∧ VRel γ n e.val e'.val ∧ e.born = e'.born
noncomputable def ESRel (γ : Nat → G) (n : Nat) (es es' : List MapEntry) : Prop := es.length = es'.length ∧ ∀ (i : Nat) (x y : MapEntry), es[i]? = some x → es'[i]? = some y → ERel γ n x y
structure CRel (γ : Nat → G) (n : Nat) (b : Nat) (B : ABlk) (C : Array Value) : Prop where
  top : C.size = (γ b).off + (γ b).lim
  len : B.cs.length = (γ b).size
  le : (γ b).size ≤ (γ b).lim
  esz : B.esz = (γ b).esz
  ex : B.ex = true → (γ b).lim = (γ b).size
  at_ : ∀ (j : Nat) (v : Value), B.cs[j]? = some v → ∃ v', C[(γ b).off + j]? = some v' ∧ VRel γ n v v'
  abs : B.abs = 0 → (γ b).off = 0
  bd : B.ex = false → (γ b).lim ≤ 9223372036854775807 * (γ b).esz
/-- No cell is frozen; but bytes are never marked at all behind their end where the elements are larger. -/
noncomputable def FzOK (n esz : Nat) (fz : Nat × Nat) : Prop := fz.1 = fz.2 ∨ (n ≤ fz.1 ∧ esz = 1)
theorem FzOK.all {n esz : Nat} {fz : Nat × Nat} (h : FzOK n esz fz) : ∀ j, j < n → ¬ (fz.1 ≤ j ∧ j < fz.2) := by
  intro j hj q
  rcases h with h | h <;> omega
noncomputable def ORel (γ : Nat → G) (n : Nat) (b : Nat) (w : World) : AObj → Prop
  | .gone => True
  | .cells B => ∃ C ty fz, w.heap[(γ b).blk]? = some (.cells C ty fz) ∧ (B.ro = false → ty = B.ty ∧ FzOK C.size B.esz fz) ∧ CRel γ n b B C
  | .map es c => ∃ es' : Array MapEntry, w.heap[(γ b).blk]? = some (.map es' c) ∧ ESRel γ n es es'.toList
  | .strIter s p => w.heap[(γ b).blk]? = some (.stringIter s p)
  | .loop L => ∃ (ts : Array Value) (f : FuncId), w.heap[(γ b).blk]? = some (.loop { state := L.st, pending := L.pend, fn := f, tmps := ts, params := L.ps, assign := L.asg, body := L.bd, defers := (γ L.df).blk }) ∧ L.df < n ∧ ts.size = L.nt ∧ ∀ i, VRel γ n (L.tm.get undef i) (ts.getD i undef)
  | .dfr => w.heap[(γ b).blk]? = some (.deferred (some []))
noncomputable def AObj.isRo : AObj → Bool
  | .cells B => B.ro
  | _ => false
/-- What the run leaves alone: the blocks below a number, and some more, each as it stands. -/
structure Bs where
  n : Nat
  pin : List (Nat × Obj)
noncomputable def Bs.mine (B : Bs) (g : Nat) : Prop := B.n ≤ g ∧ ∀ p ∈ B.pin, g ≠ p.1
structure HRel (γ : Nat → G) (base : Bs) (w0 : World) (H : AH) (w : World) : Prop where
  below : Below base.n w0 w
  g0 : H.g0 ≤ H.next
  glob : ∀ g, g < H.g0 → (γ g).blk = g ∧ (γ g).off = 0
  rel : ∀ b, b < H.next → ORel γ H.next b w (H.obj b)
  own : ∀ b, b < H.next → H.obj b ≠ .gone → (H.obj b).isRo = false → base.mine (γ b).blk
  apart : ∀ a b, a < H.next → b < H.next → a ≠ b → H.obj a ≠ .gone → H.obj b ≠ .gone → (γ a).blk = (γ b).blk → ∃ A B, H.obj a = .cells A ∧ H.obj b = .cells B ∧ A.fam = B.fam ∧ (γ a).off + B.abs = (γ b).off + A.abs
  inl : ∀ b B, b < H.next → H.obj b = .cells B → b ∈ H.mem B.fam
  fits : base.n ≤ w.heap.size
  pins : ∀ p ∈ base.pin, base.n ≤ p.1 ∧ w.heap[p.1]? = some p.2 ∧ ∀ b, b < H.next → H.obj b ≠ .gone → (γ b).blk ≠ p.1
section
variable {γ γ' : Nat → G} {n n' b : Nat} {w w' : World}
theorem ESRel.ext (e : Ext γ n γ' n') {x y : List MapEntry} (h : ESRel γ n x y) : ESRel γ' n' x y :=
  ⟨h.1, fun i u v hu hv => ⟨(h.2 i u v hu hv).1.ext e, (h.2 i u v hu hv).2.1.ext e, (h.2 i u v hu hv).2.2⟩⟩
theorem CRel.ext (e : Ext γ n γ' n') (hb : b < n) {B : ABlk} {C : Array Value} (h : CRel γ n b B C) : CRel γ' n' b B C := by
  obtain ⟨h1, h2, h3, h4, h6, h5, h7, h8⟩ := h
  have hg := e.2 b hb
  refine ⟨by rw [hg]; exact h1, by rw [hg]; exact h2, by rw [hg]; exact h3, by rw [hg]; exact h4, by rw [hg]; exact h6, fun j v hj => ?_, by rw [hg]; exact h7, by rw [hg]; exact h8⟩
  obtain ⟨v', hv, hr⟩ := h5 j v hj
  exact ⟨v', by rw [hg]; exact hv, hr.ext e⟩
theorem ORel.ext (e : Ext γ n γ' n') (hb : b < n) (hw : w'.heap[(γ b).blk]? = w.heap[(γ b).blk]?) {o : AObj} (h : ORel γ n b w o) : ORel γ' n' b w' o := by
  cases o with
  | gone => trivial
  | cells B =>
    obtain ⟨C, ty, fz, h1, h2, h3⟩ := h
    exact ⟨C, ty, fz, by rw [e.2 b hb, hw]; exact h1, h2, h3.ext e hb⟩
  | map es c =>
    obtain ⟨es', h1, h2⟩ := h
    exact ⟨es', by rw [e.2 b hb, hw]; exact h1, h2.ext e⟩
  | strIter s p => show _ = _; rw [e.2 b hb, hw]; exact h
  | loop L =>
    obtain ⟨ts, f, h1, h2, h3, h4⟩ := h
    exact ⟨ts, f, by rw [e.2 b hb, hw, e.2 L.df h2]; exact h1, Nat.lt_of_lt_of_le h2 e.1, h3, fun i => (h4 i).ext e⟩
  | dfr => show _ = _; rw [e.2 b hb, hw]; exact h
theorem ORel.lt {o : AObj} (h : ORel γ n b w o) (ho : o ≠ .gone) : (γ b).blk < w.heap.size := by
  have key : ∀ x : Obj, w.heap[(γ b).blk]? = some x → (γ b).blk < w.heap.size := fun x hx => (Array.getElem?_eq_some_iff.1 hx).1
  cases o with
  | gone => exact absurd rfl ho
  | cells B => obtain ⟨C, ty, fz, h1, _⟩ := h; exact key _ h1
  | map es c => obtain ⟨es', h1, _⟩ := h; exact key _ h1
  | strIter s p => exact key _ h
  | loop L => obtain ⟨ts, f, h1, _⟩ := h; exact key _ h1
  | dfr => exact key _ h
end
/-- A map of blocks with one more. -/
noncomputable def upd (γ : Nat → G) (n : Nat) (g : G) : Nat → G := fun b => if b = n then g else γ b
theorem upd_ext (γ : Nat → G) (n : Nat) (g : G) : Ext γ n (upd γ n g) (n + 1) := ⟨Nat.le_succ n, fun b hb => by unfold upd; rw [if_neg (by omega)]⟩
theorem upd_at (γ : Nat → G) (n : Nat) (g : G) : upd γ n g n = g := by unfold upd; rw [if_pos rfl]
theorem upd_lt (γ : Nat → G) (n : Nat) (g : G) {b : Nat} (h : b < n) : upd γ n g b = γ b := by unfold upd; rw [if_neg (by omega)]
section
variable {γ : Nat → G} {base : Bs} {w0 w : World} {H : AH}
theorem HRel.drew (h : HRel γ base w0 H w) : HRel γ base w0 H { w with drawn := w.drawn + 1 } :=
  ⟨h.below.drew, h.g0, h.glob, fun b hb => ORel.ext (Ext.refl _ _) hb rfl (h.rel b hb), h.own, h.apart, h.inl, h.fits, h.pins⟩
/-- A cell is read. -/
theorem HRel.cell (h : HRel γ base w0 H w) {b i : Nat} {B : ABlk} {v : Value} (hb : b < H.next) (ho : H.obj b = .cells B) (hv : B.cs[i]? = some v) : ∃ v', w.cell? ⟨(γ b).blk, (γ b).off + i, none⟩ = some v' ∧ VRel γ H.next v v' := by
  have hr := h.rel b hb
  rw [ho] at hr
  obtain ⟨C, ty, fz, h1, h2, h3⟩ := hr
  obtain ⟨v', hv', hr⟩ := h3.at_ i v hv
  exact ⟨v', by simp only [World.cell?, h1]; exact hv', hr⟩
/-- A new object. -/
noncomputable def AH.new (H : AH) (o : AObj) (f : Nat) (l : List Nat) : AH := { H with next := H.next + 1, objs := H.objs.set .gone H.next o, live := H.live.set [] f l }
theorem AH.new_obj (H : AH) (o : AObj) (f : Nat) (l : List Nat) (b : Nat) : (H.new o f l).obj b = if b = H.next then o else H.obj b := T.get_set _ _ _ _
theorem AH.new_mem (H : AH) (o : AObj) (f : Nat) (l : List Nat) (g : Nat) : (H.new o f l).mem g = if g = f then l else H.mem g := T.get_set _ _ _ _
theorem AH.new_next (H : AH) (o : AObj) (f : Nat) (l : List Nat) : (H.new o f l).next = H.next + 1 := rfl
theorem AH.new_g0 (H : AH) (o : AObj) (f : Nat) (l : List Nat) : (H.new o f l).g0 = H.g0 := rfl
/-- A new block of the world for a new object. -/
theorem HRel.alloc (h : HRel γ base w0 H w) (o : AObj) (ob : Obj) (g : G) (hg : g.blk = w.heap.size) (f : Nat) (l : List Nat) (hl : ∀ x, x ∈ l ↔ x = H.next ∨ x ∈ H.mem f)
    (ho : ORel (upd γ H.next g) (H.next + 1) H.next (w.alloc ob) o) (hf : ∀ B, o = .cells B → B.fam = f) : HRel (upd γ H.next g) base w0 (H.new o f l) (w.alloc ob) := by
  have hlt : ∀ b, b < H.next → H.obj b ≠ .gone → (γ b).blk < w.heap.size := fun b hb hn => (h.rel b hb).lt hn
  have hpl : ∀ p ∈ base.pin, p.1 < w.heap.size := fun p hp => (Array.getElem?_eq_some_iff.1 (h.pins p hp).2.1).1
  refine ⟨h.below.alloc h.fits ob, by rw [AH.new_g0, AH.new_next]; exact Nat.le_succ_of_le h.g0, ?_, ?_, ?_, ?_, ?_, ?_, ?_⟩
  · intro x hx
    rw [AH.new_g0] at hx
    rw [upd_lt _ _ _ (Nat.lt_of_lt_of_le hx h.g0)]
    exact h.glob x hx
  · intro b hb
    rw [AH.new_next] at hb
    rw [AH.new_obj, AH.new_next]
    by_cases e : b = H.next
    · subst e; rw [if_pos rfl]; exact ho
    · rw [if_neg e]
      have hb' : b < H.next := by omega
      by_cases hn : H.obj b = .gone
      · rw [hn]; trivial
      · exact ORel.ext (upd_ext _ _ _) hb' (Below.heap_alloc _ _ _ (hlt b hb' hn)) (h.rel b hb')
  · intro b hb hn hr
    rw [AH.new_next] at hb
    rw [AH.new_obj] at hn hr
    by_cases e : b = H.next
    · subst e; rw [upd_at, hg]; exact ⟨h.fits, fun p hp => by have := hpl p hp; omega⟩
    · rw [if_neg e] at hn hr
      rw [upd_lt _ _ _ (by omega)]
      exact h.own b (by omega) hn hr
  · intro a b ha hb hab hna hnb hblk
    rw [AH.new_next] at ha hb
    rw [AH.new_obj] at hna hnb
    rw [AH.new_obj, AH.new_obj]
    by_cases ea : a = H.next <;> by_cases eb : b = H.next
    · omega
    · subst ea
      rw [if_neg eb] at hnb
      rw [upd_at, upd_lt _ _ _ (by omega), hg] at hblk
      have := hlt b (by omega) hnb
      omega
    · subst eb
      rw [if_neg ea] at hna
      rw [upd_at, upd_lt _ _ _ (by omega), hg] at hblk
      have := hlt a (by omega) hna
      omega
    · rw [if_neg ea] at hna ⊢
      rw [if_neg eb] at hnb ⊢
      rw [upd_lt _ _ _ (by omega), upd_lt _ _ _ (by omega)] at hblk ⊢
      exact h.apart a b (by omega) (by omega) hab hna hnb hblk
  · intro b B hb hB
    rw [AH.new_next] at hb
    rw [AH.new_obj] at hB
    rw [AH.new_mem]
    by_cases e : b = H.next
    · subst e; rw [if_pos rfl] at hB
      rw [hf B hB, if_pos rfl]; exact (hl _).2 (.inl rfl)
    · rw [if_neg e] at hB
      have := h.inl b B (by omega) hB
      by_cases e2 : B.fam = f
      · rw [if_pos e2]; rw [e2] at this; exact (hl _).2 (.inr this)
      · rw [if_neg e2]; exact this
  · simp; have := h.fits; omega
  · intro p hp
    refine ⟨(h.pins p hp).1, (Below.heap_alloc _ _ _ (hpl p hp)).trans (h.pins p hp).2.1, fun b hb hn => ?_⟩
    rw [AH.new_next] at hb
    rw [AH.new_obj] at hn
    by_cases e : b = H.next
    · subst e; rw [upd_at, hg]; have := hpl p hp; omega
    · rw [if_neg e] at hn
      rw [upd_lt _ _ _ (by omega)]
      exact (h.pins p hp).2.2 b (by omega) hn
/-- Blocks are given up. -/
noncomputable def killAll (O : T AObj) : List Nat → T AObj
  | [] => O
  | a :: l => killAll (O.set .gone a .gone) l
theorem killAll_get (l : List Nat) : ∀ (O : T AObj) (b : Nat), (killAll O l).get .gone b = if b ∈ l then .gone else O.get .gone b := by
  induction l with
  | nil => intro O b; simp [killAll]
  | cons a l ih =>
    intro O b
    rw [killAll, ih, T.get_set]
    by_cases h1 : b ∈ l
    · simp [h1]
    · by_cases h2 : b = a
      · simp [h2]
      · simp [h1, h2]
end
end Go.Proofs.YtohgenhjdgdkgaaGreatDoor.Sh
