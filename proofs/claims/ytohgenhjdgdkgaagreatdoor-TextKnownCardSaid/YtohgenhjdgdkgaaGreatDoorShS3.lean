import Derived.Test.YtohgenhjdgdkgaaGreatDoorShS2
import Derived.Laws.Append
import Derived.Laws.AppendOwn
import Derived.Laws.NewFold
namespace Go.Proofs.YtohgenhjdgdkgaaGreatDoor.Sh
open Go.RowKit
set_option linter.unusedVariables false
set_option linter.unusedSimpArgs false

noncomputable def AH.read (H : AH) (b i n : Nat) : Option (List Value) :=
  match H.obj b with
  | .cells B => match Nat.ble (i + n) B.cs.length with
    | true => some ((B.cs.drop i).take n)
    | false => none
  | _ => none
theorem add_at (g o j : Nat) : (⟨g, o, none⟩ : Addr).add j = ⟨g, o + j, none⟩ := by unfold Addr.add; split <;> simp_all
section
variable {γ : Nat → G} {base : Bs} {w0 w : World} {H : AH}
theorem HRel.read (P : Program) (h : HRel γ base w0 H w) {b i n : Nat} {vs : List Value} (hb : b < H.next) (hr : H.read b i n = some vs) : ∃ vs', LRel γ H.next vs vs' ∧ vs.length = n ∧ ∀ (j : Nat) (v : Value), vs'[j]? = some v → w.cell? ((⟨(γ b).blk, (γ b).off + i, none⟩ : Addr).add j) = some v := by
  unfold AH.read at hr
  cases hob : H.obj b with
  | cells B =>
    rw [hob] at hr
    simp only at hr
    split at hr
    case h_1 hle =>
      injection hr with hr
      have hle' := Nat.le_of_ble_eq_true hle
      have hrel := h.rel b hb
      rw [hob] at hrel
      obtain ⟨C, ty0, fz, k1, k2, k3⟩ := hrel
      have htop := k3.top
      have hlen := k3.len
      have hlel := k3.le
      have hl : vs.length = n := by rw [← hr]; simp; omega
      refine ⟨(C.toList.drop ((γ b).off + i)).take n, ⟨by rw [hl]; simp; omega, ?_⟩, hl, ?_⟩
      · intro j x y hx hy
        rw [← hr, List.getElem?_take] at hx
        rw [List.getElem?_take] at hy
        split at hx
        · rename_i hj
          rw [if_pos hj] at hy
          rw [List.getElem?_drop] at hx hy
          obtain ⟨v', h1, h2⟩ := k3.at_ _ _ hx
          rw [Array.getElem?_toList, Nat.add_assoc, h1] at hy
          injection hy with hy; subst hy; exact h2
        · cases hx
      · intro j v hv
        rw [List.getElem?_take] at hv
        split at hv
        · rw [List.getElem?_drop, Array.getElem?_toList] at hv
          rw [add_at]
          simp only [World.cell?, k1]
          exact hv
        · cases hv
    case h_2 => cases hr
  | gone => rw [hob] at hr; cases hr
  | map es c => rw [hob] at hr; cases hr
  | strIter s p => rw [hob] at hr; cases hr
  | loop L => rw [hob] at hr; cases hr
  | dfr => rw [hob] at hr; cases hr
theorem HRel.loadCells (P : Program) (h : HRel γ base w0 H w) {b i n : Nat} {vs : List Value} (hb : b < H.next) (hr : H.read b i n = some vs) : ∃ vs' : List Value, LRel γ H.next vs vs' ∧ (loadCells ⟨(γ b).blk, (γ b).off + i, none⟩ n).run P w = .ok ⟨vs'⟩ w := by
  obtain ⟨vs', h1, h2, h3⟩ := h.read P hb hr
  refine ⟨vs', h1, ?_⟩
  have := run_loadCells_list (P := P) w ⟨(γ b).blk, (γ b).off + i, none⟩ vs' h3
  rw [show vs'.length = n by rw [← h1.1]; exact h2] at this
  exact this
/-- A new row of cells. -/
noncomputable def AH.newRowF (H : AH) (vs : List Value) (ty esz f abs : Nat) (l : List Nat) (ex : Bool) : AH := H.new (.cells ⟨vs, ty, esz, f, abs, false, ex⟩) f l
noncomputable def AH.newRow (H : AH) (vs : List Value) (ty esz : Nat) : AH := H.newRowF vs ty esz H.next 0 (H.next :: H.mem H.next) true
theorem HRel.newRowF (h : HRel γ base w0 H w) {vs vs' rest : List Value} (hv : LRel γ H.next vs vs') (C : Array Value) (hC : C.toList = vs' ++ rest) (ty esz f abs : Nat) (l : List Nat) (hl : ∀ x, x ∈ l ↔ x = H.next ∨ x ∈ H.mem f) (ex : Bool) (hex : ex = true → rest = []) (hbd : ex = false → vs.length + rest.length ≤ 9223372036854775807 * esz) :
    HRel (upd γ H.next ⟨w.heap.size, 0, vs.length, vs.length + rest.length, esz⟩) base w0 (H.newRowF vs ty esz f abs l ex) (w.alloc (.cells C ty)) := by
  have hsz : C.size = vs.length + rest.length := by rw [← Array.length_toList, hC, List.length_append, hv.1]
  refine h.alloc _ _ _ rfl f l hl ?_ (by intro B hB; injection hB with hB; subst hB; rfl)
  refine ⟨C, ty, (0, 0), ?_, fun _ => ⟨rfl, .inl rfl⟩, ?_⟩
  · rw [upd_at]; show (w.heap.push _)[w.heap.size]? = _; simp
  · refine ⟨by rw [upd_at, hsz]; simp, by rw [upd_at], by rw [upd_at]; simp, by rw [upd_at], fun he => by rw [upd_at, hex he]; rfl, fun j v hj => ?_, fun _ => by rw [upd_at], fun he => by rw [upd_at]; exact hbd he⟩
    rw [upd_at]
    obtain ⟨y, hy, hr⟩ := hv.get hj
    refine ⟨y, ?_, hr.ext (upd_ext _ _ _)⟩
    have hj' := (List.getElem?_eq_some_iff.1 hy).1
    show C[0 + j]? = _
    rw [Nat.zero_add, ← Array.getElem?_toList, hC, List.getElem?_append_left hj']
    exact hy
theorem HRel.newRow (h : HRel γ base w0 H w) {vs vs' : List Value} (hv : LRel γ H.next vs vs') (C : Array Value) (hC : C.toList = vs') (ty esz : Nat) :
    HRel (upd γ H.next ⟨w.heap.size, 0, vs.length, vs.length, esz⟩) base w0 (H.newRow vs ty esz) (w.alloc (.cells C ty)) := by
  have := h.newRowF hv (rest := []) C (by simpa using hC) ty esz H.next 0 (H.next :: H.mem H.next) (by simp) true (fun _ => rfl) (fun q => by cases q)
  simp only [List.length_nil, Nat.add_zero] at this
  exact this
/-- A block of the world bears one abstract block more (an append in place). -/
theorem HRel.place (h : HRel γ base w0 H w) (B : ABlk) (g : G) (l : List Nat) (hg : base.mine g.blk) (ho : ORel (upd γ H.next g) (H.next + 1) H.next w (.cells B))
    (hap : ∀ a, a < H.next → H.obj a ≠ .gone → (γ a).blk = g.blk → ∃ A, H.obj a = .cells A ∧ A.fam = B.fam ∧ (γ a).off + B.abs = g.off + A.abs) (hl : ∀ x, x ∈ l ↔ x = H.next ∨ x ∈ H.mem B.fam) :
    HRel (upd γ H.next g) base w0 (H.new (.cells B) B.fam l) w := by
  refine ⟨h.below, by rw [AH.new_g0, AH.new_next]; exact Nat.le_succ_of_le h.g0, ?_, ?_, ?_, ?_, ?_, h.fits, fun p hp => ⟨(h.pins p hp).1, (h.pins p hp).2.1, fun x hx hn => ?_⟩⟩
  case refine_6 =>
    rw [AH.new_next] at hx
    rw [AH.new_obj] at hn
    by_cases e : x = H.next
    · subst e; rw [upd_at]; exact hg.2 p hp
    · rw [if_neg e] at hn; rw [upd_lt _ _ _ (by omega)]; exact (h.pins p hp).2.2 x (by omega) hn
  · intro x hx
    rw [AH.new_g0] at hx
    rw [upd_lt _ _ _ (Nat.lt_of_lt_of_le hx h.g0)]
    exact h.glob x hx
  · intro b hb
    rw [AH.new_next] at hb
    rw [AH.new_obj, AH.new_next]
    by_cases e : b = H.next
    · subst e; rw [if_pos rfl]; exact ho
    · rw [if_neg e]; exact ORel.ext (upd_ext _ _ _) (by omega) rfl (h.rel b (by omega))
  · intro b hb hn hr
    rw [AH.new_next] at hb
    rw [AH.new_obj] at hn hr
    by_cases e : b = H.next
    · subst e; rw [upd_at]; exact hg
    · rw [if_neg e] at hn hr; rw [upd_lt _ _ _ (by omega)]; exact h.own b (by omega) hn hr
  · intro a b ha hb hab hna hnb hblk
    rw [AH.new_next] at ha hb
    rw [AH.new_obj] at hna hnb
    rw [AH.new_obj, AH.new_obj]
    by_cases ea : a = H.next <;> by_cases eb : b = H.next
    · omega
    · subst ea
      rw [if_neg eb] at hnb ⊢
      rw [if_pos rfl]
      rw [upd_at, upd_lt _ _ _ (by omega)] at hblk ⊢
      obtain ⟨A, h1, h2, h3⟩ := hap b (by omega) hnb hblk.symm
      exact ⟨B, A, rfl, h1, h2.symm, by omega⟩
    · subst eb
      rw [if_neg ea] at hna ⊢
      rw [if_pos rfl]
      rw [upd_at, upd_lt _ _ _ (by omega)] at hblk ⊢
      obtain ⟨A, h1, h2, h3⟩ := hap a (by omega) hna hblk
      exact ⟨A, B, h1, rfl, h2, h3⟩
    · rw [if_neg ea] at hna ⊢
      rw [if_neg eb] at hnb ⊢
      rw [upd_lt _ _ _ (by omega), upd_lt _ _ _ (by omega)] at hblk ⊢
      exact h.apart a b (by omega) (by omega) hab hna hnb hblk
  · intro b X hb hX
    rw [AH.new_next] at hb
    rw [AH.new_obj] at hX
    rw [AH.new_mem]
    by_cases e : b = H.next
    · subst e; rw [if_pos rfl] at hX; injection hX with hX; subst hX
      rw [if_pos rfl]; exact (hl _).2 (.inl rfl)
    · rw [if_neg e] at hX
      have := h.inl b X (by omega) hX
      by_cases e2 : X.fam = B.fam
      · rw [if_pos e2]; rw [e2] at this; exact (hl _).2 (.inr this)
      · rw [if_neg e2]; exact this
/-- Which blocks an append in place may touch. -/
noncomputable def over (H : AH) (lim : Nat) (x : Nat) : Bool :=
  match H.obj x with
  | .cells A => !(Nat.ble (A.abs + A.cs.length) lim)
  | _ => true
/-- append: a slice, cells that are put behind it. -/
noncomputable def AH.app (H : AH) (ty esz bytes : Nat) (s : Value) (xs : List Value) (n : Nat) : Option (Value × AH) :=
  match s with
  | .slice none 0 0 => match n with
    | 0 => some (.slice none 0 0, H)
    | _ => match Nat.ble (n * bytes) 140737488355328 && Nat.ble n 1152921504606846976 with
      | true => some (.slice (some ⟨H.next, 0, none⟩) n n, H.newRowF xs ty esz H.next 0 (H.next :: H.mem H.next) false)
      | false => none
  | .slice (some ⟨b, o, none⟩) l c =>
    match Nat.ble (l + n) c with
    | true => match H.put b (o + l * esz) xs with
      | some H' => some (.slice (some ⟨b, o, none⟩) (l + n) c, H')
      | none => none
    | false => match Nat.ble ((l + n) * bytes) 140737488355328 && Nat.ble (l + n) 1152921504606846976 with
      | false => none
      | true => match H.obj b, H.read b o (l * esz) with
        | .cells B, some old =>
          match B.ro, Nat.ble (o + c * esz + 1) B.cs.length || B.ex, Nat.beq B.esz esz, Nat.ble 1 esz, xs.all oneCell && Nat.beq B.ty ty with
          | false, false, true, true, true =>
            let K := (H.mem B.fam).filter (over H (B.abs + o + l * esz))
            let L := (H.mem B.fam).filter (fun x => !(over H (B.abs + o + l * esz) x))
            some (.slice (some ⟨H.next, 0, none⟩) (l + n) (l + n), (H.kill K B.fam L).newRowF (old ++ xs) ty esz B.fam (B.abs + o) (H.next :: L) false)
          | _, true, true, true, _ => some (.slice (some ⟨H.next, 0, none⟩) (l + n) (l + n), H.newRowF (old ++ xs) ty esz H.next 0 (H.next :: H.mem H.next) false)
          | _, _, _, _, _ => none
        | _, _ => none
  | _ => none
end
end Go.Proofs.YtohgenhjdgdkgaaGreatDoor.Sh
