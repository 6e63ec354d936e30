import Derived.Test.YtohgenhjdgdkgaaGreatDoorShS3
namespace Go.Proofs.YtohgenhjdgdkgaaGreatDoor.Sh
open Go.RowKit
set_option linter.unusedVariables false
set_option linter.unusedSimpArgs false

/-- What append is told of the types. -/
structure AppT (P : Program) (t xt e : TypeId) (i : TypeInfo) (z : Value) : Prop where
  ht : P.underlying t = some (.slice e)
  hx : (∃ u, P.underlying xt = some (.slice u)) ∨ P.underlying xt = some .string
  hi : P.info? e = some i
  hz : i.zero = some z
  zs : z.cells.size = i.size
section
variable {P : Program} {t xt e : TypeId} {i : TypeInfo} {z : Value}
theorem run_grow (A : AppT P t xt e i z) (w : World) (ty : TypeId) (base : Option Addr) (l c n : Nat) (x : Value) (olds news : Array Value) (hlen : (Builtin.lenOf x).run P w = .ok n w) (hg : ¬ l + n ≤ c) (hnew : (Builtin.firstCells i.size n x).run P w.drew = .ok news w.drew)
    (hold : (Builtin.firstCells i.size l (.slice base l c)).run P w.drew = .ok olds w.drew) (h63 : l + n ≤ 1152921504606846976) (hb : (l + n) * i.bytes ≤ 140737488355328) :
    (Builtin.append_ #[t, xt] ty #[.slice base l c, x]).run P w = .ok (.slice (some ⟨w.heap.size, 0, none⟩) (l + n) (grownCap w (l + n) c e)) (w.drew.alloc (.cells (olds ++ news ++ Builtin.zeroCells z.cells (grownCap w (l + n) c e - (l + n))) e)) := by
  have h63' : ¬ (9223372036854775807 < ((l : Int) + (n : Int))) := by omega
  have hfit := growslice_fits (old := c) (need := l + n) (bytes := i.bytes) (by omega) hb
  have h48' : ¬ (281474976710656 < Builtin.nextslicecap (l + n) c * i.bytes) := by omega
  rcases A.hx with ⟨u, hx⟩ | hx
  · simp [Builtin.append_, run_underlying A.ht, run_underlying hx, sizeOf, typeInfo, zeroValue, A.hi, A.hz, hlen, hg, h63', h48', Question.forced, hnew, hold, newRow, grownCap]
  · simp [Builtin.append_, run_underlying A.ht, run_underlying hx, sizeOf, typeInfo, zeroValue, A.hi, A.hz, hlen, hg, h63', h48', Question.forced, hnew, hold, newRow, grownCap]
theorem run_room (A : AppT P t xt e i z) (w w' : World) (ty : TypeId) (a : Addr) (l c n : Nat) (x : Value) (news : Array Value) (hlen : (Builtin.lenOf x).run P w = .ok n w) (hg : l + n ≤ c) (hnew : (Builtin.firstCells i.size n x).run P w = .ok news w)
    (hst : (storeCells (a.add (l * i.size)) news.toList 0).run P w = .ok () w') :
    (Builtin.append_ #[t, xt] ty #[.slice (some a) l c, x]).run P w = .ok (.slice (some a) (l + n) c) w' := by
  rcases A.hx with ⟨u, hx⟩ | hx
  · simp [Builtin.append_, run_underlying A.ht, run_underlying hx, sizeOf, typeInfo, zeroValue, A.hi, A.hz, hlen, hg, hnew, hst]
  · simp [Builtin.append_, run_underlying A.ht, run_underlying hx, sizeOf, typeInfo, zeroValue, A.hi, A.hz, hlen, hg, hnew, hst]
theorem run_room_nil (A : AppT P t xt e i z) (w : World) (ty : TypeId) (x : Value) (news : Array Value) (hlen : (Builtin.lenOf x).run P w = .ok 0 w) (hnew : (Builtin.firstCells i.size 0 x).run P w = .ok news w) :
    (Builtin.append_ #[t, xt] ty #[.slice none 0 0, x]).run P w = .ok (.slice none 0 0) w := by
  rcases A.hx with ⟨u, hx⟩ | hx
  · simp [Builtin.append_, run_underlying A.ht, run_underlying hx, sizeOf, typeInfo, zeroValue, A.hi, A.hz, hlen, hnew]
  · simp [Builtin.append_, run_underlying A.ht, run_underlying hx, sizeOf, typeInfo, zeroValue, A.hi, A.hz, hlen, hnew]
end
section
variable {γ : Nat → G} {base : Bs} {w0 w : World} {H : AH} {P : Program} {t xt e : TypeId} {i : TypeInfo} {z : Value}
/-- A grown row. -/
theorem HRel.grown (A : AppT P t xt e i z) (h : HRel γ base w0 H w) {vs vs' : List Value} (hv : LRel γ H.next vs vs') {need old : Nat} (hnd : need ≤ 1152921504606846976) (hl : vs.length = need * i.size) (olds news : Array Value) (hon : (olds ++ news).toList = vs') (f abs : Nat) (l : List Nat) (hll : ∀ x, x ∈ l ↔ x = H.next ∨ x ∈ H.mem f) :
    HRel (upd γ H.next ⟨w.heap.size, 0, vs.length, grownCap w need old e * i.size, i.size⟩) base w0 (H.newRowF vs e i.size f abs l false) (w.drew.alloc (.cells (olds ++ news ++ Builtin.zeroCells z.cells (grownCap w need old e - need)) e)) ∧
      VRel (upd γ H.next ⟨w.heap.size, 0, vs.length, grownCap w need old e * i.size, i.size⟩) (H.next + 1) (.slice (some ⟨H.next, 0, none⟩) need need) (.slice (some ⟨w.heap.size, 0, none⟩) need (grownCap w need old e)) := by
  have hge := grownCap_ge w need old e
  have hgm : grownCap w need old e ≤ 9223372036854775807 := by have := grownCap_le_maxLen w need old e (by unfold maxLen; omega); unfold maxLen at this; omega
  have hm : need * i.size + (grownCap w need old e - need) * i.size = grownCap w need old e * i.size := by rw [← Nat.add_mul]; congr 1; omega
  have hz : (Builtin.zeroCells z.cells (grownCap w need old e - need)).toList.length = (grownCap w need old e - need) * i.size := by rw [Array.length_toList, size_zeroCells, A.zs]
  refine ⟨?_, ?_⟩
  · have := h.drew.newRowF hv (rest := (Builtin.zeroCells z.cells (grownCap w need old e - need)).toList) (olds ++ news ++ Builtin.zeroCells z.cells (grownCap w need old e - need)) (by rw [Array.toList_append, hon]) e i.size f abs l hll false (fun q => by cases q) (fun _ => by rw [hz, hl, hm]; exact Nat.mul_le_mul_right _ hgm)
    rw [hz, hl, hm] at this
    rw [hl]
    exact this
  · have := VRel.slice (γ := upd γ H.next ⟨w.heap.size, 0, vs.length, grownCap w need old e * i.size, i.size⟩) (n := H.next + 1) H.next 0 need need (grownCap w need old e) (by omega) (Nat.le_refl _) (by rw [upd_at]; simp [hl]) (.inr ⟨by rw [upd_at]; simp [hl], hge, by rw [upd_at]; simp⟩)
    rw [upd_at] at this
    simpa using this
/-- What an append leaves in memory, told without the builtin. -/
inductive AppOut (P : Program) (e : TypeId) (i : TypeInfo) (z : Value) (w : World) (n : Nat) (xs' : List Value) : Value → Value → World → Prop where
  | nil : n = 0 → AppOut P e i z w n xs' (.slice none 0 0) (.slice none 0 0) w
  | room (a : Addr) (l c' : Nat) (w' : World) : l + n ≤ c' → (storeCells (a.add (l * i.size)) xs' 0).run P w = .ok () w' → AppOut P e i z w n xs' (.slice (some a) l c') (.slice (some a) (l + n) c') w'
  | grow (base : Option Addr) (l c' : Nat) (olds : List Value) : ¬ l + n ≤ c' → (Builtin.firstCells i.size l (.slice base l c')).run P w.drew = .ok ⟨olds⟩ w.drew → (l + n) * i.bytes ≤ 140737488355328 → l + n ≤ 1152921504606846976 →
      AppOut P e i z w n xs' (.slice base l c') (.slice (some ⟨w.heap.size, 0, none⟩) (l + n) (grownCap w (l + n) c' e)) (w.drew.alloc (.cells ((⟨olds⟩ : Array Value) ++ ⟨xs'⟩ ++ Builtin.zeroCells z.cells (grownCap w (l + n) c' e - (l + n))) e))
theorem HRel.appO (A : AppT P t xt e i z) (h : HRel γ base w0 H w) {s s' r : Value} {xs xs' : List Value} {n : Nat} {H' : AH} (hs : VRel γ H.next s s') (hxs : LRel γ H.next xs xs') (hxl : xs.length = n * i.size)
    (hp : H.app e i.size i.bytes s xs n = some (r, H')) :
    ∃ γ' r' w', Ext γ H.next γ' H'.next ∧ AppOut P e i z w n xs' s' r' w' ∧ VRel γ' H'.next r r' ∧ HRel γ' base w0 H' w' := by
  unfold AH.app at hp
  split at hp
  case h_1 =>
    cases hs with
    | nilslice =>
      cases n with
      | zero =>
        injection hp with hp; injection hp with e1 e2; subst e1 e2
        exact ⟨γ, _, w, Ext.refl _ _, .nil rfl, .nilslice, h⟩
      | succ m =>
        simp only at hp
        split at hp
        case h_2 => cases hp
        rename_i hbd
        rw [Bool.and_eq_true] at hbd
        have b1 := Nat.le_of_ble_eq_true hbd.1
        have b2 := Nat.le_of_ble_eq_true hbd.2
        injection hp with hp; injection hp with e1 e2; subst e1 e2
        have hr : AppOut P e i z w (m + 1) xs' (.slice none 0 0) _ _ := .grow none 0 0 [] (by omega) (run_firstCells_none (P := P) w.drew i.size 0 0 0) (by rw [Nat.zero_add]; exact b1) (by omega)
        obtain ⟨g1, g2⟩ := h.grown A hxs (need := m + 1) (old := 0) b2 hxl #[] ⟨xs'⟩ (by simp) H.next 0 (H.next :: H.mem H.next) (by simp)
        rw [Nat.zero_add] at hr
        exact ⟨_, _, _, upd_ext _ _ _, hr, g2, g1⟩
  case h_2 b o l c =>
    obtain ⟨c', a', hs', hb, hlc, hcs, hcc⟩ : ∃ c' a', s' = .slice (some a') l c' ∧ b < H.next ∧ l ≤ c ∧ o + c * (γ b).esz ≤ (γ b).size ∧ a' = ⟨(γ b).blk, (γ b).off + o, none⟩ ∧ (c' = c ∨ (o + c * (γ b).esz = (γ b).size ∧ c ≤ c' ∧ o + c' * (γ b).esz = (γ b).lim)) := by
      cases hs with
      | slice _ _ _ _ c' h1 h2 h3 h4 => exact ⟨c', _, rfl, h1, h2, h3, rfl, h4⟩
    obtain ⟨rfl, hcc⟩ := hcc
    subst hs'
    split at hp
    case h_1 hble =>
      have hle := Nat.le_of_ble_eq_true hble
      split at hp
      case h_2 => cases hp
      rename_i H1 hput
      injection hp with hp; injection hp with e1 e2; subst e1 e2
      obtain ⟨w', k1, k2, k3, k4⟩ := h.put P hb hput hxs
      refine ⟨γ, _, w', by rw [k3]; exact Ext.refl _ _, .room _ l c' w' (by rcases hcc with q | q <;> omega) (by rw [add_at, Nat.add_assoc]; exact k1), ?_, k2⟩
      rw [k3]
      exact .slice b o (l + n) c c' hb hle hcs hcc
    case h_2 hble =>
      have hlt : ¬ l + n ≤ c := fun q => by rw [Nat.ble_eq_true_of_le q] at hble; cases hble
      split at hp
      case h_1 => cases hp
      rename_i hbd
      rw [Bool.and_eq_true] at hbd
      have b1 := Nat.le_of_ble_eq_true hbd.1
      have b2 := Nat.le_of_ble_eq_true hbd.2
      split at hp
      case h_2 => cases hp
      rename_i B old hob hread
      obtain ⟨olds, ho1, ho2, ho3⟩ := h.read P hb hread
      have hfo : (Builtin.firstCells i.size l (.slice (some ⟨(γ b).blk, (γ b).off + o, none⟩) l c')).run P w.drew = .ok ⟨olds⟩ w.drew := run_firstCells_some (P := P) w.drew i.size l _ l c' olds (by rw [← ho1.1, ho2]) ho3
      have hvs := ho1.append hxs
      have hvl : (old ++ xs).length = (l + n) * i.size := by rw [List.length_append, ho2, hxl, Nat.add_mul]
      -- a new block
      have fresh : ¬ l + n ≤ c' → ∀ (K : AH) (hK : HRel γ base w0 K w) (hn : K.next = H.next) (f abs : Nat) (L : List Nat) (hL : ∀ x, x ∈ L ↔ x = K.next ∨ x ∈ K.mem f), ∃ γ' r' w', Ext γ H.next γ' (H.next + 1) ∧ AppOut P e i z w n xs' (.slice (some ⟨(γ b).blk, (γ b).off + o, none⟩) l c') r' w' ∧ VRel γ' (H.next + 1) (.slice (some ⟨H.next, 0, none⟩) (l + n) (l + n)) r' ∧ HRel γ' base w0 (K.newRowF (old ++ xs) e i.size f abs L false) w' := by
        intro hgt K hK hn f abs L hL
        have hr : AppOut P e i z w n xs' (.slice (some ⟨(γ b).blk, (γ b).off + o, none⟩) l c') _ _ := .grow _ l c' olds hgt hfo b1 b2
        obtain ⟨g1, g2⟩ := hK.grown A (by rw [hn]; exact hvs) (need := l + n) (old := c') b2 hvl ⟨olds⟩ ⟨xs'⟩ (by simp) f abs L hL
        rw [hn] at g1 g2
        exact ⟨_, _, _, upd_ext _ _ _, hr, g2, g1⟩
      split at hp
      case h_1 hro hend hesz hpos hone =>
        injection hp with hp; injection hp with e1 e2; subst e1
        rw [Bool.and_eq_true] at hone
        have hesz' : B.esz = i.size := Nat.eq_of_beq_eq_true hesz
        have hty : B.ty = e := Nat.eq_of_beq_eq_true hone.2
        have hrel := h.rel b hb
        rw [hob] at hrel
        obtain ⟨C, ty0, fz, k1, k2f, k3⟩ := hrel
        obtain ⟨rfl, k2⟩ := k2f hro
        have hge : (γ b).esz = i.size := by rw [← k3.esz]; exact hesz'
        have hbase := h.own b hb (by rw [hob]; exact fun q => by cases q) (by rw [hob]; exact hro)
        have hnx : H'.next = H.next + 1 := by rw [← e2]; rfl
        rw [hnx]
        by_cases hin : l + n ≤ c'
        · -- in place
          rcases hcc with q | ⟨q1, q2, q3⟩
          · omega
          have hbex : B.ex = false := by
            cases hbe : B.ex with
            | false => rfl
            | true =>
              exfalso
              have := k3.ex hbe
              have hcc' : c' * i.size = c * i.size := by rw [hge] at q1 q3; omega
              have := Nat.eq_of_mul_eq_mul_right (Nat.le_of_ble_eq_true hpos) hcc'
              omega
          rw [hge] at q1 q3 hcs
          have htop := k3.top
          have hm1 : (l + n) * i.size = l * i.size + n * i.size := Nat.add_mul _ _ _
          have hm2 : (l + n) * i.size ≤ c' * i.size := Nat.mul_le_mul_right _ hin
          have hm3 : l * i.size ≤ c * i.size := Nat.mul_le_mul_right _ hlc
          have hxl' := hxs.1
          obtain ⟨w', C', r1, r2, r3, r4, r5⟩ := storeCells_run P (γ b).blk ((γ b).off + (o + l * i.size)) B.ty fz xs' 0 C w k1 k2.all (by omega) (by
            intro v hvm
            obtain ⟨j, hj⟩ := List.getElem?_of_mem hvm
            have hjl := (List.getElem?_eq_some_iff.1 hj).1
            have hx : xs[j]? = some (xs[j]'(by omega)) := List.getElem?_eq_getElem _
            rw [(hxs.2 j _ _ hx hj).oneCell]
            exact List.all_eq_true.1 hone.1 _ (List.getElem_mem _))
          have hrun : AppOut P e i z w n xs' (.slice (some ⟨(γ b).blk, (γ b).off + o, none⟩) l c') _ w' := .room _ l c' w' hin (by rw [add_at, Nat.add_assoc]; exact r1)
          have hmem : ∀ x, x < H.next → H.obj x ≠ .gone → (γ x).blk = (γ b).blk → ∃ X, H.obj x = .cells X ∧ X.fam = B.fam ∧ (γ x).off + B.abs = (γ b).off + X.abs ∧ x ∈ H.mem B.fam := by
            intro x hx hn hbx
            by_cases e : x = b
            · subst e; exact ⟨B, hob, rfl, rfl, h.inl x B hx hob⟩
            · obtain ⟨X, B2, hX, hB2, hf, hof⟩ := h.apart x b hx hb e hn (by rw [hob]; exact fun e => by cases e) hbx
              rw [hob] at hB2; injection hB2 with hB2; subst hB2
              exact ⟨X, hX, hf, hof, by rw [← hf]; exact h.inl x X hx hX⟩
          have hW := h.write (C := C) (C' := C') k1 hbase r2 r3 r4 ((H.mem B.fam).filter (over H (B.abs + o + l * i.size))) ((H.mem B.fam).filter (fun x => !(over H (B.abs + o + l * i.size) x))) B.fam (by
            intro x hx hn hbx
            obtain ⟨X, hX, hf, hof, hxm⟩ := hmem x hx hn hbx
            by_cases hov : over H (B.abs + o + l * i.size) x = true
            · left; exact List.mem_filter.2 ⟨hxm, hov⟩
            · right
              intro j hj
              have hov' : Nat.ble (X.abs + X.cs.length) (B.abs + o + l * i.size) = true := by
                unfold over at hov; rw [hX] at hov; simpa using hov
              have hle := Nat.le_of_ble_eq_true hov'
              have hXr := h.rel x hx
              rw [hX] at hXr
              obtain ⟨_, _, _, _, _, kX⟩ := hXr
              have := kX.len
              rw [r5, if_neg (by omega)]) (by
            intro x hx hnx
            refine List.mem_filter.2 ⟨hx, ?_⟩
            have : ¬ over H (B.abs + o + l * i.size) x = true := fun q => hnx (List.mem_filter.2 ⟨hx, q⟩)
            simpa using this)
          let g : G := ⟨(γ b).blk, (γ b).off + o, (old ++ xs).length, (γ b).lim - o, i.size⟩
          have hP := hW.place ⟨old ++ xs, e, i.size, B.fam, B.abs + o, false, false⟩ g (H.next :: (H.mem B.fam).filter (fun x => !(over H (B.abs + o + l * i.size) x))) hbase ?_ ?_ ?_
          · rw [← e2]
            refine ⟨_, _, w', upd_ext _ _ g, hrun, ?_, hP⟩
            have := VRel.slice (γ := upd γ H.next g) (n := H.next + 1) H.next 0 (l + n) (l + n) c' (by omega) (Nat.le_refl _) (by rw [upd_at]; show 0 + (l + n) * i.size ≤ (old ++ xs).length; rw [hvl]; omega) (.inr ⟨by rw [upd_at]; show 0 + (l + n) * i.size = (old ++ xs).length; rw [hvl]; omega, hin, by rw [upd_at]; show 0 + c' * i.size = (γ b).lim - o; omega⟩)
            rw [upd_at] at this
            exact this
          · refine ⟨C', e, fz, ?_, fun _ => ⟨rfl, by rw [r4, ← hesz']; exact k2⟩, ?_⟩
            · show w'.heap[(upd γ H.next g H.next).blk]? = _
              rw [upd_at, r3, hty]
            · show CRel (upd γ H.next g) (H.next + 1) H.next _ C'
              refine ⟨by rw [upd_at, r4]; show C.size = (γ b).off + o + ((γ b).lim - o); omega, by rw [upd_at], by rw [upd_at]; show (old ++ xs).length ≤ (γ b).lim - o; rw [hvl]; omega, by rw [upd_at], (fun q => by cases q), fun j v hj => ?_, fun q => by rw [upd_at]; show (γ b).off + o = 0; have q' : B.abs + o = 0 := q; have := k3.abs (by omega); omega, fun _ => by rw [upd_at]; show (γ b).lim - o ≤ _ * i.size; have hbd := k3.bd hbex; rw [hge] at hbd; omega⟩
              rw [upd_at]
              show ∃ v', C'[(γ b).off + o + j]? = some v' ∧ VRel (upd γ H.next g) (H.next + 1) v v'
              have hj' : (old ++ xs)[j]? = some v := hj
              rw [r5]
              by_cases hjl : j < old.length
              · rw [List.getElem?_append_left hjl] at hj'
                rw [if_neg (by omega)]
                have hB : B.cs[o + j]? = some v := by
                  unfold AH.read at hread
                  rw [hob] at hread
                  simp only at hread
                  split at hread
                  · injection hread with hread
                    rw [← hread, List.getElem?_take] at hj'
                    split at hj'
                    · rwa [List.getElem?_drop] at hj'
                    · cases hj'
                  · cases hread
                obtain ⟨v', h1, h2⟩ := k3.at_ _ _ hB
                exact ⟨v', by rw [Nat.add_assoc]; exact h1, h2.ext (upd_ext _ _ _)⟩
              · have hjx := (List.getElem?_eq_some_iff.1 hj').1
                rw [List.length_append] at hjx
                rw [List.getElem?_append_right (by omega)] at hj'
                rw [if_pos (by omega)]
                obtain ⟨y, hy, hr⟩ := hxs.get hj'
                exact ⟨y, by rw [← hy]; congr 1; omega, hr.ext (upd_ext _ _ _)⟩
          · intro a ha hn hblk
            have ha' : a < H.next := ha
            rw [AH.kill_obj] at hn ⊢
            by_cases hk : a ∈ (H.mem B.fam).filter (over H (B.abs + o + l * i.size))
            · rw [if_pos hk] at hn; exact absurd rfl hn
            · rw [if_neg hk] at hn ⊢
              obtain ⟨X, hX, hf, hof, _⟩ := hmem a ha' hn hblk
              exact ⟨X, hX, hf, by show (γ a).off + (B.abs + o) = (γ b).off + o + X.abs; omega⟩
          · intro x
            show x ∈ H.next :: _ ↔ x = H.next ∨ x ∈ (H.kill _ B.fam _).mem B.fam
            rw [AH.kill_mem, if_pos rfl, List.mem_cons]
        · have hKL : ∀ x, x ∈ H.mem B.fam → x ∉ (H.mem B.fam).filter (over H (B.abs + o + l * i.size)) → x ∈ (H.mem B.fam).filter (fun x => !(over H (B.abs + o + l * i.size) x)) := by
            intro x hx hnx
            refine List.mem_filter.2 ⟨hx, ?_⟩
            have : ¬ over H (B.abs + o + l * i.size) x = true := fun q => hnx (List.mem_filter.2 ⟨hx, q⟩)
            simpa using this
          have hK := h.write (C := C) (C' := C) k1 hbase (SameBut.refl _ w) k1 rfl ((H.mem B.fam).filter (over H (B.abs + o + l * i.size))) ((H.mem B.fam).filter (fun x => !(over H (B.abs + o + l * i.size) x))) B.fam (fun x _ _ _ => .inr fun j _ => rfl) hKL
          rw [← e2]
          exact fresh hin _ hK rfl B.fam (B.abs + o) _ (by intro x; rw [AH.kill_mem, if_pos rfl, List.mem_cons]; rfl)
      case h_2 hend hesz hpos =>
        injection hp with hp; injection hp with e1 e2; subst e1 e2
        have hesz' : B.esz = i.size := Nat.eq_of_beq_eq_true hesz
        have hpos' := Nat.le_of_ble_eq_true hpos
        have hrel := h.rel b hb
        rw [hob] at hrel
        obtain ⟨C, ty0, fz, k1, k2, k3⟩ := hrel
        have hge : (γ b).esz = i.size := by rw [← k3.esz]; exact hesz'
        have hlenB := k3.len
        rcases hcc with q | ⟨q1, q2, q3⟩
        · exact fresh (by omega) H h rfl H.next 0 _ (by simp)
        · rw [hge] at q1 q3
          rw [Bool.or_eq_true] at hend
          rcases hend with he | he
          · have := Nat.le_of_ble_eq_true he; omega
          · have hx := k3.ex he
            have hcc' : c' * i.size = c * i.size := by omega
            have : c' = c := Nat.eq_of_mul_eq_mul_right hpos' hcc'
            exact fresh (by omega) H h rfl H.next 0 _ (by simp)
      case h_3 => cases hp
  case h_3 => cases hp
theorem HRel.app (A : AppT P t xt e i z) (h : HRel γ base w0 H w) {s s' r x : Value} {xs xs' : List Value} {n : Nat} {H' : AH} (hs : VRel γ H.next s s') (hxs : LRel γ H.next xs xs') (hxl : xs.length = n * i.size)
    (hlen : (Builtin.lenOf x).run P w = .ok n w) (hnew : ∀ w1 : World, w1.heap = w.heap → (Builtin.firstCells i.size n x).run P w1 = .ok ⟨xs'⟩ w1) (hp : H.app e i.size i.bytes s xs n = some (r, H')) (ty : TypeId) :
    ∃ γ' r' w', Ext γ H.next γ' H'.next ∧ (Builtin.append_ #[t, xt] ty #[s', x]).run P w = .ok r' w' ∧ VRel γ' H'.next r r' ∧ HRel γ' base w0 H' w' := by
  obtain ⟨γ', r', w', h1, h2, h3, h4⟩ := h.appO A hs hxs hxl hp
  refine ⟨γ', r', w', h1, ?_, h3, h4⟩
  cases h2 with
  | nil hn => subst hn; exact run_room_nil A w ty x _ hlen (hnew w rfl)
  | room a l c' w' hle hst => exact run_room A w w' ty a l c' n x ⟨xs'⟩ hlen hle (hnew w rfl) hst
  | grow base l c' olds hg hold hb h63 => exact run_grow A w ty base l c' n x ⟨olds⟩ ⟨xs'⟩ hlen hg (hnew _ rfl) hold h63 hb
end
end Go.Proofs.YtohgenhjdgdkgaaGreatDoor.Sh
