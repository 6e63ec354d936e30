import Derived.Test.YtohgenhjdgdkgaaGreatDoorShS1
namespace Go.Proofs.YtohgenhjdgdkgaaGreatDoor.Sh
open Go.RowKit
set_option linter.unusedVariables false
set_option linter.unusedSimpArgs false

/-- The world but for one block. -/
structure SameBut (g : Nat) (w w' : World) : Prop where
  os : w'.os = w.os
  tape : w'.tape = w.tape
  output : w'.output = w.output
  size : w'.heap.size = w.heap.size
  block : ∀ k, k ≠ g → w'.heap[k]? = w.heap[k]?
theorem SameBut.refl (g : Nat) (w : World) : SameBut g w w := ⟨rfl, rfl, rfl, rfl, fun _ _ => rfl⟩
theorem SameBut.trans {g : Nat} {a b c : World} (h : SameBut g a b) (k : SameBut g b c) : SameBut g a c :=
  ⟨k.os.trans h.os, k.tape.trans h.tape, k.output.trans h.output, k.size.trans h.size, fun i hi => (k.block i hi).trans (h.block i hi)⟩
theorem SameBut.below {g B : Nat} {a b w : World} (h : Below B a b) (k : SameBut g b w) (hg : B ≤ g) : Below B a w :=
  h.trans ⟨k.os, k.tape, k.output, by rw [k.size]; exact Nat.le_refl _, fun i hi => k.block i (by omega)⟩
theorem oneCell_store {P : Program} {m : Mode} {a : Addr} {v : Value} {k : Sem Unit} {w : World} {u : Value} (h1 : oneCell v = true) (hc : w.cell? a = some u) (hf : w.frozen? a = false) : (Sem.store m a v k).run P w = k.run P (w.setCell a v) := by
  cases v <;> simp_all [Sem.run, oneCell]
/-- Cells are stored, one by one. -/
theorem storeCells_run (P : Program) (g o : Nat) (t : TypeId) (fz : Nat × Nat) : ∀ (vs : List Value) (i : Nat) (C : Array Value) (w : World), w.heap[g]? = some (.cells C t fz) → (∀ j, j < C.size → ¬ (fz.1 ≤ j ∧ j < fz.2)) → o + i + vs.length ≤ C.size → (∀ v ∈ vs, oneCell v = true) →
    ∃ w' C', (storeCells ⟨g, o, none⟩ vs i).run P w = .ok () w' ∧ SameBut g w w' ∧ w'.heap[g]? = some (.cells C' t fz) ∧ C'.size = C.size ∧ (∀ j, C'[j]? = if o + i ≤ j ∧ j < o + i + vs.length then vs[j - (o + i)]? else C[j]?) := by
  intro vs
  induction vs with
  | nil => intro i C w hg _ _ _; exact ⟨w, C, rfl, .refl _ _, hg, rfl, fun j => by rw [if_neg (by simp)]⟩
  | cons v vs ih =>
    intro i C w hg hfz hlen hv
    simp only [List.length_cons] at hlen
    have hadd : (⟨g, o, none⟩ : Addr).add i = ⟨g, o + i, none⟩ := by unfold Addr.add; split <;> simp_all
    have hc : w.cell? ⟨g, o + i, none⟩ = some (C[o + i]'(by omega)) := by simp only [World.cell?, hg]; simp
    have hf : w.frozen? ⟨g, o + i, none⟩ = false := by
      simp only [World.frozen?, hg]
      have := hfz (o + i) (by omega)
      simp only [Bool.and_eq_false_iff, decide_eq_false_iff_not]
      omega
    have hw1 : (w.setCell ⟨g, o + i, none⟩ v).heap[g]? = some (.cells (C.setIfInBounds (o + i) v) t fz) := by
      simp only [World.setCell, Array.getElem?_modify, if_true, hg, Option.map_some]; simp
    have hs1 : SameBut g w (w.setCell ⟨g, o + i, none⟩ v) := ⟨rfl, rfl, rfl, by simp [World.setCell], fun k hk => Below.heap_setCell _ _ _ _ hk⟩
    obtain ⟨w', C', h1, h2, h3, h4, h5⟩ := ih (i + 1) _ _ hw1 (by simpa using hfz) (by simp; omega) (fun u hu => hv u (by simp [hu]))
    refine ⟨w', C', ?_, hs1.trans h2, h3, by simpa using h4, fun j => ?_⟩
    · rw [storeCells, hadd]
      show (Sem.bind (store ⟨g, o + i, none⟩ v) fun _ => storeCells ⟨g, o, none⟩ vs (i + 1)).run P w = _
      unfold store
      show (Sem.store .plain ⟨g, o + i, none⟩ v ((Sem.pure ()).bind fun _ => storeCells ⟨g, o, none⟩ vs (i + 1))).run P w = _
      rw [oneCell_store (hv v (by simp)) hc hf]
      exact h1
    · rw [h5 j]
      by_cases e : j = o + i
      · subst e
        rw [if_neg (by omega), if_pos (by simp), Array.getElem?_setIfInBounds]
        simp; omega
      · by_cases h6 : o + (i + 1) ≤ j ∧ j < o + (i + 1) + vs.length
        · rw [if_pos h6, if_pos (by simp; omega)]
          rw [show j - (o + i) = (j - (o + (i + 1))) + 1 by omega]; simp
        · rw [if_neg h6, if_neg (by simp; omega), Array.getElem?_setIfInBounds, if_neg (by omega)]
section
variable {γ : Nat → G} {base : Bs} {w0 w : World} {H : AH}
theorem HRel.congr {H' : AH} (h : HRel γ base w0 H w) (hn : H'.next = H.next) (hg : H'.g0 = H.g0) (ho : ∀ b, H'.obj b = H.obj b) (hm : ∀ f, H'.mem f = H.mem f) : HRel γ base w0 H' w := by
  obtain ⟨h1, h2, h3, h4, h5, h6, h7, h8, h9⟩ := h
  refine ⟨h1, by rw [hg, hn]; exact h2, by rw [hg]; exact h3, ?_, ?_, ?_, ?_, h8, fun p hp => ⟨(h9 p hp).1, (h9 p hp).2.1, by rw [hn]; intro b hb; rw [ho]; exact (h9 p hp).2.2 b hb⟩⟩
  · rw [hn]; intro b hb; rw [ho]; exact h4 b hb
  · rw [hn]; intro b hb; rw [ho]; exact h5 b hb
  · rw [hn]; intro a b ha hb; rw [ho, ho]; exact h6 a b ha hb
  · rw [hn]; intro b B hb; rw [ho, hm]; exact h7 b B hb
noncomputable def AH.kill (H : AH) (K : List Nat) (f : Nat) (L : List Nat) : AH := { H with objs := killAll H.objs K, live := H.live.set [] f L }
theorem AH.kill_obj (H : AH) (K : List Nat) (f : Nat) (L : List Nat) (b : Nat) : (H.kill K f L).obj b = if b ∈ K then .gone else H.obj b := killAll_get _ _ _
theorem AH.kill_mem (H : AH) (K : List Nat) (f : Nat) (L : List Nat) (g : Nat) : (H.kill K f L).mem g = if g = f then L else H.mem g := T.get_set _ _ _ _
/-- A block of the world is written; what it touches is given up. -/
theorem HRel.write2 (h : HRel γ base w0 H w) {g : Nat} {C C' : Array Value} {t : TypeId} {fz fz2 : Nat × Nat} {w' : World} (hC : w.heap[g]? = some (.cells C t fz)) (hg : base.mine g) (hw : SameBut g w w') (hC' : w'.heap[g]? = some (.cells C' t fz2)) (hsz : C'.size = C.size)
    (K L : List Nat) (hfz : ∀ x X, x < H.next → H.obj x = .cells X → (γ x).blk = g → x ∉ K → FzOK C.size X.esz fz → FzOK C.size X.esz fz2) (f : Nat) (hK : ∀ x, x < H.next → H.obj x ≠ .gone → (γ x).blk = g → x ∈ K ∨ ∀ j, j < (γ x).size → C'[(γ x).off + j]? = C[(γ x).off + j]?) (hL : ∀ x, x ∈ H.mem f → x ∉ K → x ∈ L) : HRel γ base w0 (H.kill K f L) w' := by
  have hgone : ∀ x, (H.kill K f L).obj x ≠ .gone → x ∉ K ∧ (H.kill K f L).obj x = H.obj x ∧ H.obj x ≠ .gone := by
    intro x hx
    rw [AH.kill_obj] at hx ⊢
    by_cases hk : x ∈ K
    · rw [if_pos hk] at hx; exact absurd rfl hx
    · rw [if_neg hk] at hx ⊢; exact ⟨hk, rfl, hx⟩
  refine ⟨SameBut.below h.below hw hg.1, h.g0, h.glob, ?_, ?_, ?_, ?_, by rw [hw.size]; exact h.fits, fun p hp => ⟨(h.pins p hp).1, by rw [hw.block _ (fun q => hg.2 p hp q.symm)]; exact (h.pins p hp).2.1, fun b hb hn => (h.pins p hp).2.2 b hb (hgone b hn).2.2⟩⟩
  · intro b hb
    by_cases hn : (H.kill K f L).obj b = .gone
    · rw [hn]; trivial
    · obtain ⟨hk, he, ho⟩ := hgone b hn
      rw [he]
      by_cases hbg : (γ b).blk = g
      · have hr := h.rel b hb
        rcases hK b hb ho hbg with q | q
        · exact absurd q hk
        · cases hob : H.obj b with
          | gone => exact absurd hob ho
          | cells B =>
            rw [hob] at hr
            obtain ⟨D, ty', fz', h1, h2, h3⟩ := hr
            rw [hbg, hC] at h1
            injection h1 with h1
            injection h1 with e1 e2 e3
            subst e1 e3
            refine ⟨C', t, fz2, by rw [hbg, hC'], fun hro => ⟨e2.trans (h2 hro).1, by rw [hsz]; exact hfz b B hb hob hbg hk (h2 hro).2⟩, by rw [hsz]; exact h3.top, h3.len, h3.le, h3.esz, h3.ex, fun j v hj => ?_, h3.abs, h3.bd⟩
            have hjl := (List.getElem?_eq_some_iff.1 hj).1
            rw [q j (by rw [← h3.len]; exact hjl)]
            exact h3.at_ j v hj
          | map es c =>
            rw [hob] at hr
            obtain ⟨es', h1, _⟩ := hr
            rw [hbg, hC] at h1; cases h1
          | strIter s p =>
            rw [hob] at hr
            have h1 : w.heap[(γ b).blk]? = _ := hr
            rw [hbg, hC] at h1; cases h1
          | loop L =>
            rw [hob] at hr
            obtain ⟨ts, f, h1, _⟩ := hr
            rw [hbg, hC] at h1; cases h1
          | dfr =>
            rw [hob] at hr
            have h1 : w.heap[(γ b).blk]? = _ := hr
            rw [hbg, hC] at h1; cases h1
      · exact ORel.ext (Ext.refl _ _) hb (hw.block _ hbg) (h.rel b hb)
  · intro b hb hn hr
    obtain ⟨hk, he, ho⟩ := hgone b hn
    rw [he] at hr
    exact h.own b hb ho hr
  · intro a b ha hb hab hna hnb hblk
    obtain ⟨_, ea, oa⟩ := hgone a hna
    obtain ⟨_, eb, ob⟩ := hgone b hnb
    rw [ea, eb]
    exact h.apart a b ha hb hab oa ob hblk
  · intro b B hb hB
    obtain ⟨hk, he, ho⟩ := hgone b (by rw [hB]; exact fun e => by cases e)
    rw [he] at hB
    have := h.inl b B hb hB
    rw [AH.kill_mem]
    by_cases e : B.fam = f
    · rw [if_pos e]; rw [e] at this; exact hL b this hk
    · rw [if_neg e]; exact this
theorem HRel.write (h : HRel γ base w0 H w) {g : Nat} {C C' : Array Value} {t : TypeId} {fz : Nat × Nat} {w' : World} (hC : w.heap[g]? = some (.cells C t fz)) (hg : base.mine g) (hw : SameBut g w w') (hC' : w'.heap[g]? = some (.cells C' t fz)) (hsz : C'.size = C.size)
    (K L : List Nat) (f : Nat) (hK : ∀ x, x < H.next → H.obj x ≠ .gone → (γ x).blk = g → x ∈ K ∨ ∀ j, j < (γ x).size → C'[(γ x).off + j]? = C[(γ x).off + j]?) (hL : ∀ x, x ∈ H.mem f → x ∉ K → x ∈ L) : HRel γ base w0 (H.kill K f L) w' :=
  h.write2 hC hg hw hC' hsz K L (fun _ _ _ _ _ _ q => q) f hK hL
/-- A block that was given up is there again, with other cells. -/
theorem HRel.revive (h : HRel γ base w0 H w) (b : Nat) (B : ABlk) (hb : b < H.next) (hgone : H.obj b = .gone) (hro : B.ro = false) (ho : ORel γ H.next b w (.cells B)) (hg : base.mine (γ b).blk)
    (hap : ∀ a, a < H.next → a ≠ b → H.obj a ≠ .gone → (γ a).blk ≠ (γ b).blk) (hin : b ∈ H.mem B.fam) : HRel γ base w0 { H with objs := H.objs.set .gone b (.cells B) } w := by
  have hobj : ∀ x, AH.obj { H with objs := H.objs.set .gone b (.cells B) } x = if x = b then .cells B else H.obj x := fun x => T.get_set _ _ _ _
  refine ⟨h.below, h.g0, h.glob, ?_, ?_, ?_, ?_, h.fits, fun p hp => ⟨(h.pins p hp).1, (h.pins p hp).2.1, fun x hx hn => ?_⟩⟩
  case refine_5 =>
    rw [hobj] at hn
    by_cases e : x = b
    · subst e; exact hg.2 p hp
    · rw [if_neg e] at hn; exact (h.pins p hp).2.2 x hx hn
  · intro x hx
    rw [hobj]
    by_cases e : x = b
    · subst e; rw [if_pos rfl]; exact ho
    · rw [if_neg e]; exact h.rel x hx
  · intro x hx hn hr
    rw [hobj] at hn hr
    by_cases e : x = b
    · subst e; exact hg
    · rw [if_neg e] at hn hr; exact h.own x hx hn hr
  · intro x y hx hy hxy hnx hny hblk
    rw [hobj] at hnx hny
    rw [hobj, hobj]
    by_cases ex : x = b <;> by_cases ey : y = b
    · omega
    · subst ex
      rw [if_neg ey] at hny
      exact absurd hblk.symm (hap y hy ey hny)
    · subst ey
      rw [if_neg ex] at hnx
      exact absurd hblk (hap x hx ex hnx)
    · rw [if_neg ex] at hnx ⊢
      rw [if_neg ey] at hny ⊢
      exact h.apart x y hx hy hxy hnx hny hblk
  · intro x X hx hX
    rw [hobj] at hX
    by_cases e : x = b
    · subst e; rw [if_pos rfl] at hX; injection hX with hX; subst hX; exact hin
    · rw [if_neg e] at hX; exact h.inl x X hx hX
noncomputable def putAt (cs : List Value) (i : Nat) (vs : List Value) : List Value := cs.take i ++ (vs ++ cs.drop (i + vs.length))
theorem putAt_len {cs : List Value} {i : Nat} {vs : List Value} (h : i + vs.length ≤ cs.length) : (putAt cs i vs).length = cs.length := by unfold putAt; simp; omega
theorem putAt_get {cs : List Value} {i : Nat} {vs : List Value} (h : i + vs.length ≤ cs.length) (j : Nat) : (putAt cs i vs)[j]? = if i ≤ j ∧ j < i + vs.length then vs[j - i]? else cs[j]? := by
  unfold putAt
  by_cases h1 : j < i
  · rw [List.getElem?_append_left (by simp; omega), if_neg (by omega), List.getElem?_take, if_pos h1]
  · rw [List.getElem?_append_right (by simp; omega)]
    have e : (cs.take i).length = i := by simp; omega
    rw [e]
    by_cases h2 : j < i + vs.length
    · rw [if_pos (by omega), List.getElem?_append_left (by omega)]
    · rw [if_neg (by omega), List.getElem?_append_right (by omega), List.getElem?_drop]
      congr 1; omega
noncomputable def AH.put (H : AH) (b i : Nat) (vs : List Value) : Option AH :=
  match H.obj b with
  | .cells B =>
    match B.ro, Nat.ble (i + vs.length) B.cs.length, vs.all oneCell with
    | false, true, true => some { (H.kill ((H.mem B.fam).filter (· != b)) B.fam [b]) with objs := (killAll H.objs ((H.mem B.fam).filter (· != b))).set .gone b (.cells { B with cs := putAt B.cs i vs }) }
    | _, _, _ => none
  | _ => none
theorem HRel.put (P : Program) (h : HRel γ base w0 H w) {b i : Nat} {vs vs' : List Value} {H' : AH} (hb : b < H.next) (hp : H.put b i vs = some H') (hv : LRel γ H.next vs vs') :
    ∃ w', (storeCells ⟨(γ b).blk, (γ b).off + i, none⟩ vs' 0).run P w = .ok () w' ∧ HRel γ base w0 H' w' ∧ H'.next = H.next ∧ H'.g0 = H.g0 := by
  unfold AH.put at hp
  cases hob : H.obj b with
  | cells B =>
    rw [hob] at hp
    simp only at hp
    split at hp
    case h_1 h1 h2 h3 =>
      injection hp with hp
      have hr := h.rel b hb
      rw [hob] at hr
      obtain ⟨C, ty0, fz, k1, k2f, k3⟩ := hr
      obtain ⟨rfl, k2⟩ := k2f h1
      have h2' := Nat.le_of_ble_eq_true h2
      have htop := k3.top
      have hlen := k3.len
      have hle := k3.le
      have hvl := hv.1
      obtain ⟨w', C', r1, r2, r3, r4, r5⟩ := storeCells_run P (γ b).blk ((γ b).off + i) B.ty fz vs' 0 C w k1 k2.all (by omega) (by
        intro v hvm
        obtain ⟨j, hj⟩ := List.getElem?_of_mem hvm
        have hjl := (List.getElem?_eq_some_iff.1 hj).1
        have hx : vs[j]? = some (vs[j]'(by omega)) := List.getElem?_eq_getElem _
        rw [(hv.2 j _ _ hx hj).oneCell]
        exact List.all_eq_true.1 h3 _ (List.getElem_mem _))
      have hbase := h.own b hb (by rw [hob]; exact fun e => by cases e) (by rw [hob]; exact h1)
      refine ⟨w', r1, ?_, by rw [← hp]; rfl, by rw [← hp]; rfl⟩
      -- all of the family is given up, this block too
      have hW := h.write (C := C) (C' := C') k1 hbase r2 r3 r4 (H.mem B.fam) [b] B.fam (by
        intro x hx hn hbx
        by_cases e : x = b
        · left; subst e; exact h.inl x B hx hob
        · obtain ⟨A, B2, hA, hB2, hf, _⟩ := h.apart x b hx hb e hn (by rw [hob]; exact fun e => by cases e) hbx
          rw [hob] at hB2; injection hB2 with hB2; subst hB2
          left; rw [← hf]; exact h.inl x A hx hA) (fun x hx hnx => absurd hx hnx)
      have hbm : b ∈ H.mem B.fam := h.inl b B hb hob
      have hv' := hW.revive b { B with cs := putAt B.cs i vs } hb (by rw [AH.kill_obj, if_pos hbm]) h1 ⟨C', B.ty, fz, r3, fun _ => ⟨rfl, by rw [r4]; exact k2⟩, by rw [r4]; exact k3.top, by show (putAt B.cs i vs).length = _; rw [putAt_len h2']; exact k3.len, k3.le, k3.esz, k3.ex, (by
          intro j v hj
          have hj' : (putAt B.cs i vs)[j]? = some v := hj
          rw [putAt_get h2'] at hj'
          rw [r5]
          by_cases e : i ≤ j ∧ j < i + vs.length
          · rw [if_pos e] at hj'
            rw [if_pos (by omega)]
            obtain ⟨y, hy, hr⟩ := hv.get hj'
            exact ⟨y, by rw [show (γ b).off + j - ((γ b).off + i + 0) = j - i by omega]; exact hy, hr⟩
          · rw [if_neg e] at hj'
            rw [if_neg (by omega)]
            exact k3.at_ j v hj'), k3.abs, k3.bd⟩ hbase (by
          intro a ha hne hn hblk
          rw [AH.kill_obj] at hn
          by_cases ham : a ∈ H.mem B.fam
          · rw [if_pos ham] at hn; exact hn rfl
          · rw [if_neg ham] at hn
            obtain ⟨A, B2, hA, hB2, hf, _⟩ := h.apart a b ha hb hne hn (by rw [hob]; exact fun e => by cases e) hblk
            rw [hob] at hB2; injection hB2 with hB2; subst hB2
            exact ham (by rw [← hf]; exact h.inl a A ha hA)) (by rw [AH.kill_mem, if_pos rfl]; simp)
      refine hv'.congr (by rw [← hp]; rfl) (by rw [← hp]; rfl) ?_ (by intro f; rw [← hp]; rfl)
      intro x
      rw [← hp]
      show ((killAll H.objs ((H.mem B.fam).filter (· != b))).set .gone b (.cells { B with cs := putAt B.cs i vs })).get .gone x = ((killAll H.objs (H.mem B.fam)).set .gone b (.cells { B with cs := putAt B.cs i vs })).get .gone x
      rw [T.get_set, T.get_set, killAll_get, killAll_get]
      by_cases e : x = b
      · rw [if_pos e, if_pos e]
      · rw [if_neg e, if_neg e]
        simp [e]
    case h_2 => cases hp
  | gone => rw [hob] at hp; cases hp
  | map es c => rw [hob] at hp; cases hp
  | strIter s p => rw [hob] at hp; cases hp
  | loop L => rw [hob] at hp; cases hp
  | dfr => rw [hob] at hp; cases hp
end
end Go.Proofs.YtohgenhjdgdkgaaGreatDoor.Sh
