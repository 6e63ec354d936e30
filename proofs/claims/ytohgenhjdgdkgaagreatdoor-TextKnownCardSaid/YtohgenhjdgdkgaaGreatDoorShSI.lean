import Derived.Test.YtohgenhjdgdkgaaGreatDoorShSH
import Derived.Orders
namespace Go.Proofs.YtohgenhjdgdkgaaGreatDoor.Sh
open Go.RowKit
set_option linter.unusedVariables false
set_option linter.unusedSimpArgs false

/-! ### regions whose order Go leaves open -/
/-- Operations that leave memory alone. -/
noncomputable def quietB : Builtin → Bool
  | .len => true
  | .min => true
  | .max => true
  | .unsafeSliceData => true
  | _ => false
noncomputable def noSlice : Option TypeDesc → Bool
  | some (.slice _) => false
  | _ => true
noncomputable def quiet (E : FEnv) (o : Op) : Bool :=
  match o with
  | .move _ => true
  | .assign _ => true
  | .pick _ _ _ => true
  | .build _ _ => true
  | .load _ _ => true
  | .nilCheck _ => true
  | .binOp _ _ _ _ _ => true
  | .unOp _ _ _ => true
  | .makeInterface _ _ => true
  | .convert _ d _ => noSlice (E.und d)
  | .makeFunc _ _ _ => true
  | .fieldAddr _ _ _ => true
  | .field _ _ _ => true
  | .indexAddr _ _ _ => true
  | .index _ _ _ => true
  | .lookup _ _ _ _ => true
  | .typeAssert _ _ _ _ => true
  | .extract _ _ => true
  | .call c => match c.callee with
    | .builtin b => quietB b
    | _ => false
  | _ => false
/-- What an operation looks at. -/
noncomputable def opsOf (o : Op) : List Operand :=
  match o with
  | .move x => [x]
  | .assign x => [x]
  | .pick a b c => [a, b, c]
  | .alloc _ => []
  | .box _ x => [x]
  | .build _ ps => ps.toList.map (·.2)
  | .buildSlice _ _ ps => ps.toList.map (·.2)
  | .load _ a => [a]
  | .store _ a x => [a, x]
  | .nilCheck x => [x]
  | .binOp _ _ x y _ => [x, y]
  | .unOp _ _ x => [x]
  | .convert _ _ x => [x]
  | .makeInterface _ x => [x]
  | .makeFunc _ a b => a.toList ++ b.toList
  | .makeMap _ r => r.toList
  | .makeSlice _ l c => [l, c]
  | .slice _ x a b c => x :: (a.toList ++ (b.toList ++ c.toList))
  | .fieldAddr _ x _ => [x]
  | .field _ x _ => [x]
  | .indexAddr _ x i => [x, i]
  | .index _ x i => [x, i]
  | .lookup _ x i _ => [x, i]
  | .mapUpdate _ m k v => [m, k, v]
  | .insert _ m k v => [m, k, v]
  | .typeAssert x _ _ _ => [x]
  | .extract x _ => [x]
  | .panic x => [x]
  | .call c => match c.callee with
    | .value f => f :: c.args.toList
    | _ => c.args.toList
  | .defer c => match c.callee with
    | .value f => f :: c.args.toList
    | _ => c.args.toList
  | _ => []
section
variable {E : FEnv} {e1 e2 : Ev} {H : AH}
theorem evList_congr : ∀ (l : List Operand), (∀ x ∈ l, e1 x = e2 x) → evList e1 l = evList e2 l
  | [], _ => rfl
  | x :: l, h => by unfold evList; rw [h x (by simp), evList_congr l (fun y hy => h y (by simp [hy]))]
theorem evParts_congr : ∀ (l : List (Nat × Operand)), (∀ x ∈ l.map (·.2), e1 x = e2 x) → evParts e1 l = evParts e2 l
  | [], _ => rfl
  | (i, x) :: l, h => by unfold evParts; rw [h x (by simp), evParts_congr l (fun y hy => h y (by simp at hy ⊢; exact .inr hy))]
theorem evOpt_congr {x : Option Operand} (h : ∀ y ∈ x.toList, e1 y = e2 y) : evOpt e1 x = evOpt e2 x := by
  cases x with
  | none => rfl
  | some y => unfold evOpt; simp only; rw [h y (by simp)]
theorem aop_congr (o : Op) (h : ∀ x ∈ opsOf o, e1 x = e2 x) : aop E e1 o H = aop E e2 o H := by
  unfold aop
  cases o <;> simp only [opsOf] at h ⊢
  case build t ps => rw [evParts_congr _ h]
  case buildSlice t n ps => rw [evParts_congr _ h]
  case makeFunc fn a b =>
    cases fn <;> simp only
    rw [evList_congr a.toList (fun x hx => h x (by simp [hx])), evList_congr b.toList (fun x hx => h x (by simp [hx]))]
  case makeMap t r => rw [evOpt_congr h]
  case slice t x a b c =>
    rw [h x (by simp), evOpt_congr (x := a) (fun y hy => h y (by simp at hy ⊢; exact .inr (.inl hy))), evOpt_congr (x := b) (fun y hy => h y (by simp at hy ⊢; exact .inr (.inr (.inl hy)))), evOpt_congr (x := c) (fun y hy => h y (by simp at hy ⊢; exact .inr (.inr (.inr hy))))]
  case call c =>
    cases hc : c.callee with
    | value f =>
      rw [hc] at h
      simp only at h ⊢
      rw [h f (by simp), evList_congr c.args.toList (fun x hx => h x (by simp at hx ⊢; exact .inr hx))]
    | builtin b =>
      rw [hc] at h
      simp only at h ⊢
      rw [evList_congr c.args.toList h]
    | invoke r n => rfl
  case defer c =>
    cases hc : c.callee with
    | value f =>
      rw [hc] at h
      simp only at h ⊢
      rw [h f (by simp), evList_congr c.args.toList (fun x hx => h x (by simp at hx ⊢; exact .inr hx))]
    | builtin b => rfl
    | invoke r n => rfl
  case pick a b c => rw [h a (by simp), h b (by simp), h c (by simp)]
  case store t a x => rw [h a (by simp), h x (by simp)]
  case binOp op t x y yt => rw [h x (by simp), h y (by simp)]
  case makeSlice t l c => rw [h l (by simp), h c (by simp)]
  case indexAddr t x i => rw [h x (by simp), h i (by simp)]
  case index t x i => rw [h x (by simp), h i (by simp)]
  case lookup t x i ok => rw [h x (by simp), h i (by simp)]
  case mapUpdate t m k v => rw [h m (by simp), h k (by simp), h v (by simp)]
  case insert t m k v => rw [h m (by simp), h k (by simp), h v (by simp)]
  all_goals first
    | (rw [h _ (by simp)]; done)
    | rfl
theorem ofVal_same {r : Option Value} {n : AN} {H' : AH} (h : ofVal r H = some (n, H')) : H' = H ∧ ∃ v, n = .val v := by
  unfold ofVal at h
  split at h
  case h_2 => cases h
  injection h with h; injection h with q1 q2; exact ⟨q2.symm, _, q1.symm⟩
theorem aConv_same {E : Env} {s d : TypeId} {a v : Value} {H H' : AH} (hq : noSlice (E.und d) = true) (h : aConv E s d a H = some (v, H')) : H' = H := by
  unfold aConv at h
  repeat' split at h
  all_goals first
    | (cases h; done)
    | (injection h with h; injection h with q1 q2; exact q2.symm)
    | (rename_i hd _; rw [hd] at hq; cases hq; done)
    | (simp_all [noSlice]; done)
theorem quiet_same {ev : Ev} {o : Op} {n : AN} {H' : AH} (hq : quiet E o = true) (h : aop E ev o H = some (n, H')) : H' = H ∧ ∃ v, n = .val v := by
  unfold aop at h
  split at h <;> first
    | (cases hq; done)
    | (cases h; done)
    | exact ofVal_same h
    | (split at h <;> first | (cases h; done) | exact ofVal_same h | (injection h with h; injection h with q1 q2; exact ⟨q2.symm, _, q1.symm⟩))
    | (split at h <;> first | (cases h; done) | (rename_i a hx; unfold ofVal2 at h; split at h <;> first | (cases h; done) | (rename_i v K hc; injection h with h; injection h with q1 q2; subst q2; exact ⟨aConv_same hq hc, _, q1.symm⟩)))
    | skip
  · rename_i c
    split at h
    · rename_i b hb
      unfold quiet at hq
      simp only [hb] at hq
      split at h
      case h_2 => cases h
      unfold aBuiltin at h
      split at h <;> first | (cases hq; done) | exact ofVal_same h | (cases h; done)
    · rename_i f hf
      unfold quiet at hq
      simp only [hf] at hq
      cases hq
    · cases h
end
/-! equal values -/
noncomputable def vEqL (f : Value → Value → Bool) : List Value → List Value → Bool
  | [], [] => true
  | a :: x, b :: y => match f a b with
    | true => vEqL f x y
    | false => false
  | _, _ => false
noncomputable def addrEq : Option Addr → Option Addr → Bool
  | none, none => true
  | some ⟨b, o, none⟩, some ⟨b', o', none⟩ => Nat.beq b b' && Nat.beq o o'
  | _, _ => false
noncomputable def vEq : Nat → Value → Value → Bool
  | 0, _, _ => false
  | k + 1, a, b => match a, b with
    | .bool a, .bool b => boolEq a b
    | .int k a, .int k' b => kindEq k k' && eqI a b
    | .string a, .string b => bytesEq a.data.toList b.data.toList
    | .pointer a, .pointer b => addrEq a b
    | .slice a l c, .slice b l' c' => addrEq a b && Nat.beq l l' && Nat.beq c c'
    | .map none, .map none => true
    | .map (some a), .map (some b) => Nat.beq a b
    | .nilFunc, .nilFunc => true
    | .func (.func f) ⟨a⟩ ⟨b⟩, .func (.func f') ⟨a'⟩ ⟨b'⟩ => Nat.beq f f' && vEqL (vEq k) a a' && vEqL (vEq k) b b'
    | .nilIface, .nilIface => true
    | .iface t a, .iface t' b => Nat.beq t t' && vEq k a b
    | .agg ⟨a⟩, .agg ⟨b⟩ => vEqL (vEq k) a b
    | .tuple ⟨a⟩, .tuple ⟨b⟩ => vEqL (vEq k) a b
    | _, _ => false
theorem vEqL_eq {f : Value → Value → Bool} (hf : ∀ a b, f a b = true → a = b) : ∀ x y, vEqL f x y = true → x = y
  | [], [], _ => rfl
  | a :: x, b :: y, h => by
    unfold vEqL at h
    split at h
    · rename_i hab
      rw [hf a b hab, vEqL_eq hf x y h]
    · cases h
  | [], b :: y, h => by cases h
  | a :: x, [], h => by cases h
theorem addrEq_eq {a b : Option Addr} (h : addrEq a b = true) : a = b := by
  unfold addrEq at h
  split at h
  · rfl
  · rw [Bool.and_eq_true] at h
    rw [Nat.eq_of_beq_eq_true h.1, Nat.eq_of_beq_eq_true h.2]
  · cases h
theorem vEq_eq : ∀ (k : Nat) (a b : Value), vEq k a b = true → a = b := by
  intro k
  induction k with
  | zero => intro a b h; cases h
  | succ k ih =>
    intro a b h
    unfold vEq at h
    split at h
    · rename_i a b; cases a <;> cases b <;> first | rfl | cases h
    · rw [Bool.and_eq_true] at h
      have h1 := kindEq_eq h.1
      have h2 := h.2
      rw [eqI_eq] at h2
      rw [h1, eq_of_beq h2]
    · rename_i a b
      have : a.data.toList = b.data.toList := by rw [bytesEq_eq] at h; exact eq_of_beq h
      congr 1
      apply ByteArray.ext
      exact Array.ext' this
    · rw [addrEq_eq h]
    · rw [Bool.and_eq_true, Bool.and_eq_true] at h
      rw [addrEq_eq h.1.1, Nat.eq_of_beq_eq_true h.1.2, Nat.eq_of_beq_eq_true h.2]
    · rfl
    · rw [Nat.eq_of_beq_eq_true h]
    · rfl
    · rw [Bool.and_eq_true, Bool.and_eq_true] at h
      rw [Nat.eq_of_beq_eq_true h.1.1, vEqL_eq ih _ _ h.1.2, vEqL_eq ih _ _ h.2]
    · rfl
    · rw [Bool.and_eq_true] at h
      rw [Nat.eq_of_beq_eq_true h.1, ih _ _ h.2]
    · rw [vEqL_eq ih _ _ h]
    · rw [vEqL_eq ih _ _ h]
    · cases h
/-! which operations wait for which -/
noncomputable def edgesOf (o : Oper) : List Nat := (o.after.toList.filter (Region.binds .any)).map (·.on)
noncomputable def maskOf (acc : List Nat) : List Nat → Nat
  | [] => 0
  | e :: es => Nat.lor (Nat.lor (Nat.shiftLeft 1 e) (acc.getD e 0)) (maskOf acc es)
noncomputable def masksGo : List Oper → List Nat → List Nat
  | [], acc => acc
  | o :: r, acc => masksGo r (acc ++ [maskOf acc (edgesOf o)])
noncomputable def bitAt (m j : Nat) : Bool := Nat.beq (Nat.land (Nat.shiftRight m j) 1) 1
theorem bitAt_eq (m j : Nat) : bitAt m j = m.testBit j := by
  unfold bitAt
  rw [Nat.testBit_eq_decide_div_mod_eq, beq_eq']
  refine decide_eq_decide.2 ?_
  show (m >>> j) &&& 1 = 1 ↔ _
  rw [Nat.and_one_is_mod, Nat.shiftRight_eq_div_pow]
theorem maskOf_bit (acc : List Nat) (j : Nat) : ∀ es : List Nat, bitAt (maskOf acc es) j = true → ∃ e ∈ es, j = e ∨ bitAt (acc.getD e 0) j = true := by
  intro es
  induction es with
  | nil => intro h; rw [bitAt_eq] at h; simp [maskOf] at h
  | cons e es ih =>
    intro h
    rw [bitAt_eq] at h
    have h' : (((1 <<< e) ||| acc.getD e 0) ||| maskOf acc es).testBit j = true := h
    rw [Nat.testBit_or, Nat.testBit_or, Bool.or_eq_true, Bool.or_eq_true] at h'
    rcases h' with (h1 | h1) | h1
    · refine ⟨e, by simp, .inl ?_⟩
      rw [Nat.testBit_shiftLeft, Bool.and_eq_true] at h1
      have h2 := h1.2
      rw [Nat.testBit_one_eq_true_iff_self_eq_zero] at h2
      have := of_decide_eq_true h1.1
      omega
    · exact ⟨e, by simp, .inr (by rw [bitAt_eq]; exact h1)⟩
    · obtain ⟨e', he', q⟩ := ih (by rw [bitAt_eq]; exact h1)
      exact ⟨e', by simp [he'], q⟩
theorem masksGo_spec : ∀ (r : List Oper) (acc : List Nat), ∃ tl, masksGo r acc = acc ++ tl ∧ tl.length = r.length ∧ ∀ i o, r[i]? = some o → (masksGo r acc).getD (acc.length + i) 0 = maskOf ((masksGo r acc).take (acc.length + i)) (edgesOf o) := by
  intro r
  induction r with
  | nil => intro acc; exact ⟨[], by simp [masksGo], rfl, fun i o h => by simp at h⟩
  | cons o r ih =>
    intro acc
    obtain ⟨tl, h1, h2, h3⟩ := ih (acc ++ [maskOf acc (edgesOf o)])
    refine ⟨maskOf acc (edgesOf o) :: tl, by rw [masksGo, h1]; simp, by simp [h2], fun i o' ho => ?_⟩
    rw [masksGo]
    cases i with
    | zero =>
      simp at ho
      subst ho
      rw [h1]
      simp [List.getD_eq_getElem?_getD]
    | succ i =>
      have := h3 i o' (by simpa using ho)
      simp only [List.length_append, List.length_singleton] at this
      rw [show acc.length + (i + 1) = acc.length + 1 + i by omega]
      exact this
noncomputable def masks (ops : List Oper) : List Nat := masksGo ops []
theorem masks_bit {ops : List Oper} {i j : Nat} {o : Oper} (ho : ops[i]? = some o) (h : bitAt ((masks ops).getD i 0) j = true) : ∃ e ∈ edgesOf o, j = e ∨ (e < i ∧ bitAt ((masks ops).getD e 0) j = true) := by
  obtain ⟨tl, h1, h2, h3⟩ := masksGo_spec ops []
  have := h3 i o ho
  simp only [List.length_nil, Nat.zero_add] at this
  unfold masks at h ⊢
  rw [this] at h
  obtain ⟨e, he, q⟩ := maskOf_bit _ _ _ h
  refine ⟨e, he, ?_⟩
  rcases q with q | q
  · exact .inl q
  · right
    by_cases hei : e < i
    · refine ⟨hei, ?_⟩
      rw [List.getD_eq_getElem?_getD, List.getElem?_take, if_pos hei, ← List.getD_eq_getElem?_getD] at q
      exact q
    · rw [List.getD_eq_getElem?_getD, List.getElem?_take, if_neg hei] at q
      rw [bitAt_eq] at q
      simp at q
theorem maskOf_rev (acc : List Nat) (j e : Nat) : ∀ es : List Nat, e ∈ es → (j = e ∨ bitAt (acc.getD e 0) j = true) → bitAt (maskOf acc es) j = true := by
  intro es
  induction es with
  | nil => intro h; cases h
  | cons x es ih =>
    intro h q
    rw [bitAt_eq]
    show (((1 <<< x) ||| acc.getD x 0) ||| maskOf acc es).testBit j = true
    rw [Nat.testBit_or, Nat.testBit_or, Bool.or_eq_true, Bool.or_eq_true]
    rcases List.mem_cons.1 h with e1 | h
    · subst e1
      left
      rcases q with q | q
      · left; subst q; simp [Nat.testBit_shiftLeft]
      · right; rw [← bitAt_eq]; exact q
    · right; rw [← bitAt_eq]; exact ih h q
theorem masks_rev {ops : List Oper} {i j e : Nat} {o : Oper} (ho : ops[i]? = some o) (he : e ∈ edgesOf o) (hei : e < i) (q : j = e ∨ bitAt ((masks ops).getD e 0) j = true) : bitAt ((masks ops).getD i 0) j = true := by
  obtain ⟨tl, h1, h2, h3⟩ := masksGo_spec ops []
  have := h3 i o ho
  simp only [List.length_nil, Nat.zero_add] at this
  unfold masks at q ⊢
  rw [this]
  refine maskOf_rev _ _ e _ he ?_
  rcases q with q | q
  · exact .inl q
  · right
    rw [List.getD_eq_getElem?_getD, List.getElem?_take, if_pos hei, ← List.getD_eq_getElem?_getD]
    exact q
theorem masks_trans {ops : List Oper} (hb : ∀ i o, ops[i]? = some o → ∀ e ∈ edgesOf o, e < i) : ∀ (i : Nat) (o : Oper), ops[i]? = some o → ∀ j h, bitAt ((masks ops).getD i 0) j = true → bitAt ((masks ops).getD j 0) h = true → bitAt ((masks ops).getD i 0) h = true := by
  intro i
  induction i using Nat.strongRecOn with
  | _ i ih =>
    intro o ho j h h1 h2
    obtain ⟨e, hee, q⟩ := masks_bit ho h1
    have hei := hb i o ho e hee
    refine masks_rev ho hee hei (.inr ?_)
    rcases q with rfl | ⟨hlt, q⟩
    · exact h2
    · have hile := (List.getElem?_eq_some_iff.1 ho).1
      exact ih e hlt _ (List.getElem?_eq_getElem (by omega)) j h q h2
/-- What is listed is closed under waiting. -/
theorem masks_closed {ops : List Oper} {D : Nat → Prop} (hD : ∀ i o, ops[i]? = some o → D i → ∀ e ∈ edgesOf o, D e) : ∀ (i : Nat) (o : Oper), ops[i]? = some o → (∀ e ∈ edgesOf o, D e) → ∀ j, bitAt ((masks ops).getD i 0) j = true → D j := by
  intro i
  induction i using Nat.strongRecOn with
  | _ i ih =>
    intro o ho he j hj
    obtain ⟨e, hee, q⟩ := masks_bit ho hj
    rcases q with rfl | ⟨hlt, q⟩
    · exact he _ hee
    · have hile := (List.getElem?_eq_some_iff.1 ho).1
      have hoe : ops[e]? = some (ops[e]'(by omega)) := List.getElem?_eq_getElem _
      exact ih e hlt _ hoe (hD e _ hoe (he e hee)) j q
end Go.Proofs.YtohgenhjdgdkgaaGreatDoor.Sh
