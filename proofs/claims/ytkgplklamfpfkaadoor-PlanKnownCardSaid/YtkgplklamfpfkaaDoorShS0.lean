import Derived.Calls
import Derived.Below
import Derived.ProofKit
namespace Go.Proofs.YtkgplklamfpfkaaDoor.Sh
set_option linter.unusedVariables false
set_option linter.unusedSimpArgs false

/-! ### trees keyed by numbers -/
inductive T (α : Type) where
  | lf
  | nd (v : α) (l r : T α)
def T.get {α : Type} (d : α) : T α → Nat → α
  | .lf, _ => d
  | .nd v l r, k => match k with
    | 0 => v
    | m + 1 => match m % 2 with
      | 0 => l.get d (m / 2)
      | _ => r.get d (m / 2)
def T.setF {α : Type} (d : α) : Nat → T α → Nat → α → T α
  | 0, t, _, _ => t
  | f + 1, t, k, x => match t, k with
    | .lf, 0 => .nd x .lf .lf
    | .nd _ l r, 0 => .nd x l r
    | .lf, m + 1 => match m % 2 with
      | 0 => .nd d (T.setF d f .lf (m / 2) x) .lf
      | _ => .nd d .lf (T.setF d f .lf (m / 2) x)
    | .nd v l r, m + 1 => match m % 2 with
      | 0 => .nd v (T.setF d f l (m / 2) x) r
      | _ => .nd v l (T.setF d f r (m / 2) x)
def T.set {α : Type} (d : α) (t : T α) (k : Nat) (x : α) : T α := T.setF d (k + 1) t k x
section
variable {α : Type} {d : α}
theorem T.get_lf (k : Nat) : (T.lf : T α).get d k = d := by unfold T.get; rfl
theorem T.get_zero (v : α) (l r : T α) : (T.nd v l r).get d 0 = v := rfl
theorem T.get_succ (v : α) (l r : T α) (m : Nat) : (T.nd v l r).get d (m + 1) = if m % 2 = 0 then l.get d (m / 2) else r.get d (m / 2) := by
  show (match m % 2 with | 0 => l.get d (m / 2) | _ => r.get d (m / 2)) = _
  rcases Nat.mod_two_eq_zero_or_one m with h | h <;> rw [h] <;> rfl
theorem T.get_setF : ∀ (f : Nat) (t : T α) (k : Nat) (x : α), k < f → ∀ j, (T.setF d f t k x).get d j = if j = k then x else t.get d j := by
  intro f
  induction f with
  | zero => intro t k x h; omega
  | succ f ih =>
    intro t k x h j
    cases t with
    | lf =>
      cases k with
      | zero =>
        show (T.nd x .lf .lf).get d j = _
        cases j with
        | zero => rfl
        | succ j => rw [T.get_succ]; simp [T.get_lf]
      | succ m =>
        have hs : T.setF d (f + 1) (.lf : T α) (m + 1) x = if m % 2 = 0 then .nd d (T.setF d f .lf (m / 2) x) .lf else .nd d .lf (T.setF d f .lf (m / 2) x) := by
          show (match m % 2 with | 0 => T.nd d (T.setF d f .lf (m / 2) x) .lf | _ => T.nd d .lf (T.setF d f .lf (m / 2) x)) = _
          rcases Nat.mod_two_eq_zero_or_one m with h | h <;> rw [h] <;> rfl
        rw [hs, T.get_lf]
        cases j with
        | zero => split <;> simp [T.get_zero]
        | succ j =>
          split <;> rw [T.get_succ]
          · by_cases hj : j % 2 = 0
            · rw [if_pos hj, ih _ _ _ (by omega), T.get_lf]; congr 1; exact propext ⟨fun e => by omega, fun e => by omega⟩
            · rw [if_neg hj, T.get_lf, if_neg (by omega)]
          · by_cases hj : j % 2 = 0
            · rw [if_pos hj, T.get_lf, if_neg (by omega)]
            · rw [if_neg hj, ih _ _ _ (by omega), T.get_lf]; congr 1; exact propext ⟨fun e => by omega, fun e => by omega⟩
    | nd v l r =>
      cases k with
      | zero =>
        show (T.nd x l r).get d j = _
        cases j with
        | zero => rfl
        | succ j => rw [T.get_succ, T.get_succ]; simp
      | succ m =>
        have hs : T.setF d (f + 1) (.nd v l r) (m + 1) x = if m % 2 = 0 then .nd v (T.setF d f l (m / 2) x) r else .nd v l (T.setF d f r (m / 2) x) := by
          show (match m % 2 with | 0 => T.nd v (T.setF d f l (m / 2) x) r | _ => T.nd v l (T.setF d f r (m / 2) x)) = _
          rcases Nat.mod_two_eq_zero_or_one m with h | h <;> rw [h] <;> rfl
        rw [hs]
        cases j with
        | zero => split <;> simp [T.get_zero]
        | succ j =>
          split <;> rw [T.get_succ, T.get_succ]
          · by_cases hj : j % 2 = 0
            · rw [if_pos hj, if_pos hj, ih _ _ _ (by omega)]; congr 1; exact propext ⟨fun e => by omega, fun e => by omega⟩
            · rw [if_neg hj, if_neg hj, if_neg (by omega)]
          · by_cases hj : j % 2 = 0
            · rw [if_pos hj, if_pos hj, if_neg (by omega)]
            · rw [if_neg hj, if_neg hj, ih _ _ _ (by omega)]; congr 1; exact propext ⟨fun e => by omega, fun e => by omega⟩
theorem T.get_set (t : T α) (k : Nat) (x : α) (j : Nat) : (t.set d k x).get d j = if j = k then x else t.get d j := T.get_setF _ _ _ _ (by omega) _
end

/-! ### values: an abstract block stands for a place in a block -/
structure G where
  blk : Nat
  off : Nat
  size : Nat
  lim : Nat
  esz : Nat
inductive FnRel (γ : Nat → G) (n : Nat) : Fn → Fn → Prop where
  | func (f : FuncId) : FnRel γ n (.func f) (.func f)
  | yield (l : Nat) : l < n → FnRel γ n (.yield l) (.yield (γ l).blk)
inductive VRel (γ : Nat → G) (n : Nat) : Value → Value → Prop where
  | bool (b : Bool) : VRel γ n (.bool b) (.bool b)
  | int (k : IntKind) (i : Int) : VRel γ n (.int k i) (.int k i)
  | float (k : FloatKind) (b : Nat) : VRel γ n (.float k b) (.float k b)
  | string (s : ByteArray) : VRel γ n (.string s) (.string s)
  | nilptr : VRel γ n (.pointer none) (.pointer none)
  | ptr (b o : Nat) : b < n → VRel γ n (.pointer (some ⟨b, o, none⟩)) (.pointer (some ⟨(γ b).blk, (γ b).off + o, none⟩))
  | nilslice : VRel γ n (.slice none 0 0) (.slice none 0 0)
  | slice (b o l c c' : Nat) : b < n → l ≤ c → o + c * (γ b).esz ≤ (γ b).size → (c' = c ∨ (o + c * (γ b).esz = (γ b).size ∧ c ≤ c' ∧ o + c' * (γ b).esz = (γ b).lim)) → VRel γ n (.slice (some ⟨b, o, none⟩) l c) (.slice (some ⟨(γ b).blk, (γ b).off + o, none⟩) l c')
  | nilmap : VRel γ n (.map none) (.map none)
  | map (b : Nat) : b < n → VRel γ n (.map (some b)) (.map (some (γ b).blk))
  | nilfn : VRel γ n .nilFunc .nilFunc
  | fn (f f' : Fn) (a b a' b' : List Value) : FnRel γ n f f' → a.length = a'.length → (∀ (i : Nat) (x y : Value), a[i]? = some x → a'[i]? = some y → VRel γ n x y) → b.length = b'.length → (∀ (i : Nat) (x y : Value), b[i]? = some x → b'[i]? = some y → VRel γ n x y) → VRel γ n (.func f ⟨a⟩ ⟨b⟩) (.func f' ⟨a'⟩ ⟨b'⟩)
  | nilif : VRel γ n .nilIface .nilIface
  | iface (t : TypeId) (v v' : Value) : VRel γ n v v' → VRel γ n (.iface t v) (.iface t v')
  | agg (a a' : List Value) : a.length = a'.length → (∀ (i : Nat) (x y : Value), a[i]? = some x → a'[i]? = some y → VRel γ n x y) → VRel γ n (.agg ⟨a⟩) (.agg ⟨a'⟩)
  | tup (a a' : List Value) : a.length = a'.length → (∀ (i : Nat) (x y : Value), a[i]? = some x → a'[i]? = some y → VRel γ n x y) → VRel γ n (.tuple ⟨a⟩) (.tuple ⟨a'⟩)
/-- Lists, one by one. -/
def LRel (γ : Nat → G) (n : Nat) (a a' : List Value) : Prop := a.length = a'.length ∧ ∀ (i : Nat) (x y : Value), a[i]? = some x → a'[i]? = some y → VRel γ n x y
/-- A later map of blocks. -/
def Ext (γ : Nat → G) (n : Nat) (γ' : Nat → G) (n' : Nat) : Prop := n ≤ n' ∧ ∀ b, b < n → γ' b = γ b
theorem Ext.refl (γ : Nat → G) (n : Nat) : Ext γ n γ n := ⟨Nat.le_refl _, fun _ _ => rfl⟩
theorem Ext.trans {γ γ' γ'' : Nat → G} {n n' n'' : Nat} (h : Ext γ n γ' n') (k : Ext γ' n' γ'' n'') : Ext γ n γ'' n'' :=
  ⟨Nat.le_trans h.1 k.1, fun b hb => (k.2 b (Nat.lt_of_lt_of_le hb h.1)).trans (h.2 b hb)⟩
section
variable {γ γ' : Nat → G} {n n' : Nat}
theorem FnRel.ext (e : Ext γ n γ' n') {f f' : Fn} (h : FnRel γ n f f') : FnRel γ' n' f f' := by
  cases h with
  | func f => exact .func f
  | yield l hl => rw [← e.2 l hl]; exact .yield l (Nat.lt_of_lt_of_le hl e.1)
theorem VRel.ext (e : Ext γ n γ' n') {v v' : Value} (h : VRel γ n v v') : VRel γ' n' v v' := by
  induction h with
  | bool b => exact .bool b
  | int k i => exact .int k i
  | float k b => exact .float k b
  | string s => exact .string s
  | nilptr => exact .nilptr
  | ptr b o hb => rw [← e.2 b hb]; exact .ptr b o (Nat.lt_of_lt_of_le hb e.1)
  | nilslice => exact .nilslice
  | slice b o l c c' hb h1 h2 h3 => rw [← e.2 b hb] at h2 h3 ⊢; exact .slice b o l c c' (Nat.lt_of_lt_of_le hb e.1) h1 h2 h3
  | nilmap => exact .nilmap
  | map b hb => rw [← e.2 b hb]; exact .map b (Nat.lt_of_lt_of_le hb e.1)
  | nilfn => exact .nilfn
  | fn f f' a b a' b' hf h1 _ h3 _ i1 i2 => exact .fn f f' a b a' b' (hf.ext e) h1 i1 h3 i2
  | nilif => exact .nilif
  | iface t v v' _ i => exact .iface t v v' i
  | agg a a' h1 _ i => exact .agg a a' h1 i
  | tup a a' h1 _ i => exact .tup a a' h1 i
theorem LRel.ext (e : Ext γ n γ' n') {a a' : List Value} (h : LRel γ n a a') : LRel γ' n' a a' := ⟨h.1, fun i x y hx hy => (h.2 i x y hx hy).ext e⟩
theorem LRel.nil : LRel γ n [] [] := ⟨rfl, fun i x y hx => by simp at hx⟩
theorem LRel.cons {x x' : Value} {a a' : List Value} (h : VRel γ n x x') (k : LRel γ n a a') : LRel γ n (x :: a) (x' :: a') := by
  refine ⟨by simp [k.1], fun i u v hu hv => ?_⟩
  cases i with
  | zero => simp at hu hv; subst hu hv; exact h
  | succ i => simp at hu hv; exact k.2 i u v hu hv
theorem LRel.get {a a' : List Value} (h : LRel γ n a a') {i : Nat} {x : Value} (hx : a[i]? = some x) : ∃ y, a'[i]? = some y ∧ VRel γ n x y := by
  have hi := (List.getElem?_eq_some_iff.1 hx).1
  have hy : a'[i]? = some (a'[i]'(by rw [← h.1]; exact hi)) := List.getElem?_eq_getElem _
  exact ⟨_, hy, h.2 i x _ hx hy⟩
theorem LRel.inv_cons {x : Value} {a b : List Value} (h : LRel γ n (x :: a) b) : ∃ x' a', b = x' :: a' ∧ VRel γ n x x' ∧ LRel γ n a a' := by
  match b, h with
  | [], h => simp [LRel] at h
  | x' :: a', h => exact ⟨x', a', rfl, h.2 0 _ _ rfl rfl, by simpa using h.1, fun i u v hu hv => h.2 (i + 1) u v (by simpa using hu) (by simpa using hv)⟩
theorem LRel.inv_nil {b : List Value} (h : LRel γ n [] b) : b = [] := List.eq_nil_of_length_eq_zero (by rw [← h.1]; rfl)
theorem LRel.append {a a' b b' : List Value} (h : LRel γ n a a') (k : LRel γ n b b') : LRel γ n (a ++ b) (a' ++ b') := by
  refine ⟨by simp [h.1, k.1], fun i x y hx hy => ?_⟩
  by_cases hi : i < a.length
  · rw [List.getElem?_append_left hi] at hx
    rw [List.getElem?_append_left (by rw [← h.1]; exact hi)] at hy
    exact h.2 i x y hx hy
  · rw [List.getElem?_append_right (by omega)] at hx
    rw [List.getElem?_append_right (by rw [← h.1]; omega), ← h.1] at hy
    exact k.2 _ x y hx hy
theorem LRel.drop {a a' : List Value} (h : LRel γ n a a') (m : Nat) : LRel γ n (a.drop m) (a'.drop m) := by
  refine ⟨by simp [h.1], fun i x y hx hy => h.2 (m + i) x y ?_ ?_⟩
  · simpa using hx
  · simpa using hy
theorem LRel.take {a a' : List Value} (h : LRel γ n a a') (m : Nat) : LRel γ n (a.take m) (a'.take m) := by
  refine ⟨by simp [h.1], fun i x y hx hy => h.2 i x y ?_ ?_⟩
  · rw [List.getElem?_take] at hx; split at hx <;> simp_all
  · rw [List.getElem?_take] at hy; split at hy <;> simp_all
theorem LRel.set {a a' : List Value} (h : LRel γ n a a') (m : Nat) {x x' : Value} (hx : VRel γ n x x') : LRel γ n (a.set m x) (a'.set m x') := by
  refine ⟨by simp [h.1], fun i u v hu hv => ?_⟩
  rw [List.getElem?_set] at hu hv
  by_cases e : m = i
  · subst e
    simp only [if_true] at hu hv
    have := h.1
    split at hu <;> split at hv
    · simp at hu hv; subst hu hv; exact hx
    · omega
    · omega
    · simp at hu
  · rw [if_neg e] at hu hv
    exact h.2 i u v hu hv
theorem VRel.mkAgg {a a' : List Value} (h : LRel γ n a a') : VRel γ n (.agg ⟨a⟩) (.agg ⟨a'⟩) := .agg a a' h.1 h.2
theorem VRel.mkTup {a a' : List Value} (h : LRel γ n a a') : VRel γ n (.tuple ⟨a⟩) (.tuple ⟨a'⟩) := .tup a a' h.1 h.2
theorem VRel.undef : VRel γ n Go.undef Go.undef := .tup [] [] rfl (fun i x y hx => by simp at hx)
theorem LRel.len {a a' : List Value} (h : LRel γ n a a') : a'.length = a.length := h.1.symm
/-- A value without addresses stands for itself. -/
def plainN : Nat → Value → Bool
  | 0, _ => false
  | k + 1, v => match v with
    | .bool _ | .int _ _ | .float _ _ | .string _ | .pointer none | .slice none 0 0 | .map none | .nilFunc | .nilIface => true
    | .func (.func _) ⟨a⟩ ⟨b⟩ => a.all (plainN k) && b.all (plainN k)
    | .iface _ v => plainN k v
    | .agg ⟨a⟩ | .tuple ⟨a⟩ => a.all (plainN k)
    | _ => false
theorem VRel.plain : ∀ (k : Nat) (v : Value), plainN k v = true → VRel γ n v v := by
  intro k
  induction k with
  | zero => intro v h; simp [plainN] at h
  | succ k ih =>
    have hl : ∀ a : List Value, a.all (plainN k) = true → ∀ (i : Nat) (x y : Value), a[i]? = some x → a[i]? = some y → VRel γ n x y := by
      intro a ha i x y hx hy
      rw [hx] at hy; injection hy with hy; subst hy
      exact ih x (List.all_eq_true.1 ha x (List.mem_of_getElem? hx))
    intro v h
    unfold plainN at h
    split at h
    · exact .bool _
    · exact .int _ _
    · exact .float _ _
    · exact .string _
    · exact .nilptr
    · exact .nilslice
    · exact .nilmap
    · exact .nilfn
    · exact .nilif
    · rw [Bool.and_eq_true] at h
      exact .fn _ _ _ _ _ _ (.func _) rfl (hl _ h.1) rfl (hl _ h.2)
    · exact .iface _ _ _ (ih _ h)
    · exact .agg _ _ rfl (hl _ h)
    · exact .tup _ _ rfl (hl _ h)
    · cases h
end
end Go.Proofs.YtkgplklamfpfkaaDoor.Sh
