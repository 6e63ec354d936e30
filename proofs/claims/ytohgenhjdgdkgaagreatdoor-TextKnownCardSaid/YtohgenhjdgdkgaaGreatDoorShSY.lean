import Derived.Test.YtohgenhjdgdkgaaGreatDoorShSC
namespace Go.Proofs.YtohgenhjdgdkgaaGreatDoor.Sh
open Go.RowKit
set_option linter.unusedVariables false
set_option linter.unusedSimpArgs false

/-! ### slices.Insert: append(s[:k], v ++ s[k:]) -/
/-- Worlds that differ in what was drawn alone. -/
structure WSame (w w' : World) : Prop where
  os : w'.os = w.os
  tape : w'.tape = w.tape
  output : w'.output = w.output
  heap : w'.heap = w.heap
theorem WSame.refl (w : World) : WSame w w := ⟨rfl, rfl, rfl, rfl⟩
/-- What a call of slices.Insert does (the elements of v lie in another block than those of s). -/
structure InsRun (P : Program) (f : FuncId) (e : TypeId) (i : TypeInfo) (z : Value) : Prop where
  some_ : ∀ (w : World) (b off l c' k vb voff m vc : Nat) (C CV : Array Value) (tB tV : TypeId) (fz fzV : Nat × Nat) (xs tl : List Value),
    w.heap[b]? = some (.cells C tB fz) → (∀ j, j < C.size → ¬ (fz.1 ≤ j ∧ j < fz.2)) → off + c' * i.size ≤ C.size → w.heap[vb]? = some (.cells CV tV fzV) → fzV.1 = fzV.2 → vb ≠ b →
    (∀ j v, xs[j]? = some v → CV[voff + j]? = some v) → xs.length = m * i.size → (∀ v ∈ xs, oneCell v = true) →
    (∀ j v, tl[j]? = some v → C[off + k * i.size + j]? = some v) → tl.length = (l - k) * i.size → (∀ v ∈ tl, oneCell v = true) →
    k ≤ l → 0 < m → l ≤ c' → c' ≤ 9223372036854775807 → (l + m) * i.bytes ≤ 140737488355328 → l + m ≤ 1152921504606846976 →
    Calls P f #[.slice (some ⟨b, off, none⟩) l c', .int .i64 k, .slice (some ⟨vb, voff, none⟩) m vc] w fun en w' =>
      ∃ r w1, en = .returned r ∧ AppOut P e i z w (m + (l - k)) (xs ++ tl) (.slice (some ⟨b, off, none⟩) k c') r w1 ∧ WSame w1 w'
  nil_ : ∀ (w : World) (vb voff m vc : Nat) (CV : Array Value) (tV : TypeId) (fzV : Nat × Nat) (xs : List Value),
    w.heap[vb]? = some (.cells CV tV fzV) → (∀ j v, xs[j]? = some v → CV[voff + j]? = some v) → xs.length = m * i.size → (∀ v ∈ xs, oneCell v = true) →
    0 < m → m * i.bytes ≤ 140737488355328 → m ≤ 1152921504606846976 →
    Calls P f #[.slice none 0 0, .int .i64 0, .slice (some ⟨vb, voff, none⟩) m vc] w fun en w' =>
      ∃ r w1, en = .returned r ∧ AppOut P e i z w m xs (.slice none 0 0) r w1 ∧ WSame w1 w'
noncomputable def AH.ins (H : AH) (e : TypeId) (i : TypeInfo) (args : List Value) : Option (Value × AH) :=
  match args with
  | [.slice none 0 0, .int .i64 (.ofNat 0), .slice (some ⟨vb, vo, none⟩) (m + 1) vc] => match H.read vb vo ((m + 1) * i.size) with
    | some xs => match xs.all oneCell with
      | true => H.app e i.size i.bytes (.slice none 0 0) xs (m + 1)
      | false => none
    | none => none
  | [.slice (some ⟨b, o, none⟩) l c, .int .i64 (.ofNat k), .slice (some ⟨vb, vo, none⟩) (m + 1) vc] => match H.obj b, H.obj vb with
    | .cells B, .cells V => match H.read vb vo ((m + 1) * i.size), H.read b (o + k * i.size) ((l - k) * i.size), Nat.ble k l, Nat.ble c 9223372036854775807, B.ro, V.ro, Nat.beq B.fam V.fam, Nat.beq B.esz i.size, Nat.beq V.esz i.size, Nat.ble 2 i.size, Nat.ble ((l + (m + 1)) * i.bytes) 140737488355328 && Nat.ble (l + (m + 1)) 1152921504606846976 with
      | some xs, some tl, true, true, false, false, false, true, true, true, true => match (xs ++ tl).all oneCell with
        | true => H.app e i.size i.bytes (.slice (some ⟨b, o, none⟩) k c) (xs ++ tl) (m + 1 + (l - k))
        | false => none
      | _, _, _, _, _, _, _, _, _, _, _ => none
    | _, _ => none
  | _ => none
theorem HRel.same {γ : Nat → G} {base : Bs} {w0 w w' : World} {H : AH} (h : HRel γ base w0 H w) (e : WSame w w') : HRel γ base w0 H w' :=
  ⟨h.below.trans ⟨e.os, e.tape, e.output, by rw [e.heap]; exact Nat.le_refl _, fun i _ => by rw [e.heap]⟩, h.g0, h.glob, fun b hb => ORel.ext (Ext.refl _ _) hb (by rw [e.heap]) (h.rel b hb), h.own, h.apart, h.inl, by rw [e.heap]; exact h.fits, fun p hp => by rw [e.heap]; exact h.pins p hp⟩
section
variable {γ : Nat → G} {base : Bs} {w0 w : World} {H : AH} {P : Program} {f : FuncId} {t xt e : TypeId} {i : TypeInfo} {z : Value}
theorem oneCell_rel {n : Nat} {xs xs' : List Value} (h : LRel γ n xs xs') (hx : xs.all oneCell = true) : ∀ v ∈ xs', oneCell v = true := by
  intro v hv
  obtain ⟨j, hj⟩ := List.getElem?_of_mem hv
  have hjl := (List.getElem?_eq_some_iff.1 hj).1
  have := h.1
  have hx' : xs[j]? = some (xs[j]'(by omega)) := List.getElem?_eq_getElem _
  rw [(h.2 j _ _ hx' hj).oneCell]
  exact List.all_eq_true.1 hx _ (List.getElem_mem _)
/-- What is read of a block, as cells of its row. -/
theorem HRel.readC (P : Program) (h : HRel γ base w0 H w) {b i n : Nat} {B : ABlk} {C : Array Value} {ty : TypeId} {fz : Nat × Nat} {vs : List Value} (hb : b < H.next) (hob : H.obj b = .cells B) (hC : w.heap[(γ b).blk]? = some (.cells C ty fz)) (hr : H.read b i n = some vs) :
    ∃ vs', LRel γ H.next vs vs' ∧ vs'.length = n ∧ ∀ (j : Nat) (v : Value), vs'[j]? = some v → C[(γ b).off + i + j]? = some v := by
  obtain ⟨vs', h1, h2, h3⟩ := h.read P hb hr
  refine ⟨vs', h1, by rw [← h1.1]; exact h2, fun j v hj => ?_⟩
  have := h3 j v hj
  rw [add_at] at this
  simp only [World.cell?, hC] at this
  exact this
theorem AppOut.det {w : World} {n : Nat} {xs : List Value} {s r1 r2 : Value} {w1 w2 : World} (h1 : AppOut P e i z w n xs s r1 w1) (h2 : AppOut P e i z w n xs s r2 w2) : r1 = r2 ∧ w1 = w2 := by
  cases h1 with
  | nil hn =>
    cases h2 with
    | nil _ => exact ⟨rfl, rfl⟩
    | grow _ _ _ _ hg => exact absurd hg (by omega)
  | room a l c' w' hle hst =>
    cases h2 with
    | room _ _ _ w2 _ hst2 =>
      rw [hst] at hst2
      injection hst2 with _ e2
      exact ⟨rfl, e2⟩
    | grow _ _ _ _ hg => exact absurd hle hg
  | grow base l c' olds hg hold hb h6 =>
    cases h2 with
    | nil hn => exact absurd hg (by omega)
    | room _ _ _ _ hle => exact absurd hle hg
    | grow _ _ _ olds2 _ hold2 =>
      rw [hold] at hold2
      injection hold2 with e1
      injection e1 with e1
      subst e1
      exact ⟨rfl, rfl⟩
theorem HRel.ins (A : AppT P t xt e i z) (hI : InsRun P f e i z) (h : HRel γ base w0 H w) {args args' : List Value} {r : Value} {H' : AH} (ha : LRel γ H.next args args') (hp : H.ins e i args = some (r, H')) :
    Calls P f ⟨args'⟩ w fun en w' => ∃ γ' r', Ext γ H.next γ' H'.next ∧ en = .returned r' ∧ VRel γ' H'.next r r' ∧ HRel γ' base w0 H' w' := by
  unfold AH.ins at hp
  split at hp
  · rename_i vb vo m vc
    split at hp
    case h_2 => cases hp
    rename_i xs hread
    split at hp
    case h_2 => cases hp
    rename_i hone
    obtain ⟨s', r1, rfl, g1, g2⟩ := ha.inv_cons
    obtain ⟨k', r2, rfl, g3, g4⟩ := g2.inv_cons
    obtain ⟨v', r3, rfl, g5, g6⟩ := g4.inv_cons
    obtain rfl := g6.inv_nil
    rw [g1.nilslice_inv.2.2, g3.int_inv]
    obtain ⟨_, hvb, _, _, vc', rfl, _⟩ := g5.slice_inv
    cases hV : H.obj vb with
    | cells V =>
      have hrel := h.rel vb hvb
      rw [hV] at hrel
      obtain ⟨CV, tV, fzV, k1, k2, k3⟩ := hrel
      obtain ⟨xs', l1, l2, l3⟩ := h.readC P hvb hV k1 hread
      have hxl : xs.length = (m + 1) * i.size := by rw [l1.1]; exact l2
      obtain ⟨γ', r', w', o1, o2, o3, o4⟩ := h.appO A .nilslice l1 hxl hp
      have hbd : (m + 1) * i.bytes ≤ 140737488355328 ∧ m + 1 ≤ 1152921504606846976 := by
        cases o2 with
        | nil hn => exact absurd hn (by omega)
        | grow _ _ _ _ _ _ q1 q2 => exact ⟨by simpa using q1, by simpa using q2⟩
      refine (hI.nil_ w (γ vb).blk ((γ vb).off + vo) (m + 1) vc' CV tV fzV xs' k1 l3 l2 (oneCell_rel l1 hone) (by omega) hbd.1 hbd.2).mono ?_
      rintro en w2 ⟨r2, w1, rfl, q2, q3⟩
      obtain ⟨rfl, rfl⟩ := o2.det q2
      exact ⟨γ', _, o1, rfl, o3, o4.same q3⟩
    | gone => unfold AH.read at hread; rw [hV] at hread; cases hread
    | map es c => unfold AH.read at hread; rw [hV] at hread; cases hread
    | strIter s p => unfold AH.read at hread; rw [hV] at hread; cases hread
    | loop L => unfold AH.read at hread; rw [hV] at hread; cases hread
    | dfr => unfold AH.read at hread; rw [hV] at hread; cases hread
  · rename_i b o l c k vb vo m vc
    split at hp
    case h_2 => cases hp
    rename_i B V hB hV
    split at hp
    case h_2 => cases hp
    rename_i xs tl hread htail hkl hc63 hro hvro hfam hesz hvesz h2 hbd
    split at hp
    case h_2 => cases hp
    rename_i hone
    obtain ⟨s', r1, rfl, g1, g2⟩ := ha.inv_cons
    obtain ⟨k', r2, rfl, g3, g4⟩ := g2.inv_cons
    obtain ⟨v', r3, rfl, g5, g6⟩ := g4.inv_cons
    obtain rfl := g6.inv_nil
    have hs0 := g1
    obtain ⟨_, hb, hlc, hcs, c', rfl, hcc⟩ := g1.slice_inv
    rw [g3.int_inv]
    obtain ⟨_, hvb, _, _, vc', rfl, _⟩ := g5.slice_inv
    have hkl := Nat.le_of_ble_eq_true hkl
    have hc63 := Nat.le_of_ble_eq_true hc63
    have hesz := Nat.eq_of_beq_eq_true hesz
    have hvesz := Nat.eq_of_beq_eq_true hvesz
    have h2 := Nat.le_of_ble_eq_true h2
    rw [Bool.and_eq_true] at hbd
    have hbd1 := Nat.le_of_ble_eq_true hbd.1
    have hbd2 := Nat.le_of_ble_eq_true hbd.2
    have hrel := h.rel b hb
    rw [hB] at hrel
    obtain ⟨C, tB, fz, k1, k2, k3⟩ := hrel
    have hrelV := h.rel vb hvb
    rw [hV] at hrelV
    obtain ⟨CV, tV, fzV, j1, j2, j3⟩ := hrelV
    obtain ⟨xs', l1, l2, l3⟩ := h.readC P hvb hV j1 hread
    obtain ⟨tl', m1, m2, m3⟩ := h.readC P hb hB k1 htail
    have hge : (γ b).esz = i.size := by rw [← k3.esz]; exact hesz
    rw [hge] at hcs hcc
    have hle := k3.le
    have htop := k3.top
    have hc'63 : c' ≤ 9223372036854775807 := by
      rcases hcc with q | ⟨q1, q2, q3⟩
      · omega
      · cases hbe : B.ex with
        | true =>
          have := k3.ex hbe
          have hcc' : c' * i.size = c * i.size := by omega
          have := Nat.eq_of_mul_eq_mul_right (by omega) hcc'
          omega
        | false =>
          have := k3.bd hbe
          rw [hge] at this
          exact Nat.le_of_mul_le_mul_right (by omega : c' * i.size ≤ 9223372036854775807 * i.size) (by omega)
    have hcc2 : c ≤ c' := by rcases hcc with q | q <;> omega
    have hroom : o + c' * i.size ≤ (γ b).lim := by
      rcases hcc with q | ⟨q1, q2, q3⟩
      · rw [q]; omega
      · omega
    have hne : (γ vb).blk ≠ (γ b).blk := by
      intro q
      have hff : B.fam = V.fam := by
        by_cases ebv : vb = b
        · subst ebv; rw [hB] at hV; injection hV with hV; rw [hV]
        · obtain ⟨A1, B1, a1, a2, a3, _⟩ := h.apart vb b hvb hb ebv (by rw [hV]; exact fun q => by cases q) (by rw [hB]; exact fun q => by cases q) q
          rw [hV] at a1; rw [hB] at a2
          injection a1 with a1; injection a2 with a2
          rw [a1, a2]; exact a3.symm
      rw [hff, Nat.beq_refl] at hfam; cases hfam
    have hfzV : fzV.1 = fzV.2 := by
      rcases (j2 hvro).2 with q | ⟨_, q⟩
      · exact q
      · omega
    have hxl : (xs ++ tl).length = (m + 1 + (l - k)) * i.size := by rw [List.length_append, l1.1, m1.1, l2, m2, ← Nat.add_mul]
    have hs : VRel γ H.next (.slice (some ⟨b, o, none⟩) k c) (.slice (some ⟨(γ b).blk, (γ b).off + o, none⟩) k c') := by
      cases hs0 with
      | slice _ _ _ _ _ q1 q2 q3 q4 => exact .slice b o k c c' q1 (by omega) q3 q4
    obtain ⟨γ', r', w', o1, o2, o3, o4⟩ := h.appO A hs (l1.append m1) hxl hp
    rw [List.all_append, Bool.and_eq_true] at hone
    refine (hI.some_ w (γ b).blk ((γ b).off + o) l c' k (γ vb).blk ((γ vb).off + vo) (m + 1) vc' C CV tB tV fz fzV xs' tl' k1 (k2 hro).2.all (by omega) j1 hfzV hne l3 l2 (oneCell_rel l1 hone.1) (fun j v hj => by have := m3 j v hj; rw [show (γ b).off + (o + k * i.size) + j = (γ b).off + o + k * i.size + j by omega] at this; exact this) m2 (oneCell_rel m1 hone.2) hkl (by omega) (by omega) hc'63 hbd1 hbd2).mono ?_
    rintro en w2 ⟨r2, w1, rfl, q2, q3⟩
    obtain ⟨rfl, rfl⟩ := o2.det q2
    exact ⟨γ', _, o1, rfl, o3, o4.same q3⟩
  · cases hp
end
noncomputable def aIns (E : Env) (t : TypeId) (args : List Value) (H : AH) : Option (Value × AH) :=
  match E.und t with
  | some (.slice e) => match E.inf e, zeroOf E e with
    | some i, some z => match Nat.beq z.cells.toList.length i.size with
      | true => H.ins e i args
      | false => none
    | _, _ => none
  | _ => none
/-- What is asked of a function that is taken to be slices.Insert at a type. -/
noncomputable def InsOK (E : Env) (f : FuncId) (t : TypeId) : Prop := ∀ e i z, AppT E.P t t e i z → InsRun E.P f e i z
theorem aIns_ok {E : Env} {γ : Nat → G} {base : Bs} {w0 w : World} {H : AH} {f : FuncId} {t : TypeId} (hE : E.OK) (hI : InsOK E f t) (h : HRel γ base w0 H w) {args args' : List Value} {r : Value} {H' : AH} (ha : LRel γ H.next args args') (hp : aIns E t args H = some (r, H')) :
    Calls E.P f ⟨args'⟩ w fun en w' => ∃ γ' r', Ext γ H.next γ' H'.next ∧ en = .returned r' ∧ VRel γ' H'.next r r' ∧ HRel γ' base w0 H' w' := by
  unfold aIns at hp
  split at hp
  case h_2 => cases hp
  rename_i e hu
  split at hp
  case h_2 => cases hp
  rename_i i z hi hz
  split at hp
  case h_2 => cases hp
  rename_i hzs
  have A : AppT E.P t t e i z := ⟨hE.und _ _ hu, .inl ⟨_, hE.und _ _ hu⟩, hE.inf _ _ hi, zeroOf_inf hz hi, by rw [← Array.length_toList]; exact Nat.eq_of_beq_eq_true hzs⟩
  exact h.ins A (hI e i z A) ha hp
end Go.Proofs.YtohgenhjdgdkgaaGreatDoor.Sh
