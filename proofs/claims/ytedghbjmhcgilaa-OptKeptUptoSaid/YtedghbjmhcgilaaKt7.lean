import Derived.Maps.OwnSet
import Derived.Maps.OwnOps
import Derived.Sort.QuietIn
import Derived.RangeFuncCalls
import Derived.Test.YtedghbjmhcgilaaKt6
section
namespace Go.Proofs.Ytedghbjmhcgilaa.A
open Go.RowKit Go.Shelf Go.Maps Go.Proofs.YtedghbjmhcgilaaW.PrintWords Go.Proofs.YtedghbjmhcgilaaW.PrintLast Go.Proofs.YtedghbjmhcgilaaW.PrintMore
open Go.Proofs.Ytedghbjmhcgilaa.POpt
set_option linter.unusedVariables false
set_option linter.unusedSimpArgs false
theorem law3 : Keyed Try.prog 3 := int_keyed Try.underlying3
theorem zero3 (w : World) : (zeroValue 3).run Try.prog w = .ok (.int .i64 0) w := by kernel_rfl
def IMap (W : World) (b N : Nat) (f : Int → Option Int) : Prop :=
  ∃ D : DataW Unit, W.ownsMap Try.prog 3 (plainElem Try.prog 3) b N D ∧ Maps.IsMap D ∧ ∀ k : Int, (Lit.int .i64 k).wf = true → Maps.has D (.int .i64 k) = (f k).isSome ∧ ∀ v z, f k = some v → D.atKey (.int .i64 k) z = .lit (.int .i64 v)
theorem IMap.put_law {W : World} {b N : Nat} {f : Int → Option Int} {D : DataW Unit} {W' : World} (k v : Int) (hk : (Lit.int .i64 k).wf = true) (hv : (Lit.int .i64 v).wf = true)
    (hm : Maps.IsMap D) (hf : ∀ k : Int, (Lit.int .i64 k).wf = true → Maps.has D (.int .i64 k) = (f k).isSome ∧ ∀ v z, f k = some v → D.atKey (.int .i64 k) z = .lit (.int .i64 v))
    (h : W'.ownsMap Try.prog 3 (plainElem Try.prog 3) b (N + 1) (D.put (.int .i64 k) (.lit (.int .i64 v)))) : IMap W' b (N + 1) (fun x => if x = k then some v else f x) := by
  refine ⟨_, h, hm.put _ _, fun x hx => ?_⟩
  have hkl : WideAt.IsKeyLit (Lit.int .i64 k) := trivial
  by_cases hxk : x = k
  · subst hxk
    simp only [if_true]
    exact ⟨Maps.has_put_same hm hkl _, fun v' z e => by injection e with e; subst e; exact Maps.atKey_put_same hm hkl _ _⟩
  · simp only [if_neg hxk]
    have hne : (Lit.int .i64 x) ≠ .int .i64 k := fun e => hxk (by injection e)
    rw [Maps.has_put_other hne]
    exact ⟨(hf x hx).1, fun v' z e => by rw [Maps.atKey_put_other hne]; exact (hf x hx).2 v' z e⟩
theorem lit_inj {a b : Int} (h : (DataW.lit (Lit.int .i64 a) : DataW Unit) = .lit (.int .i64 b)) : a = b := by
  injection h with h
  injection h
theorem IMap.look {W : World} {b N : Nat} {f : Int → Option Int} (h : IMap W b N f) (k : Int) (hk : (Lit.int .i64 k).wf = true) :
    (Instr.lookup 101 (.map (some b)) (.int .i64 k) true).run Try.prog W = .ok (.tuple #[.int .i64 ((f k).getD 0), .bool (f k).isSome]) W := by
  obtain ⟨D, ho, hm, hf⟩ := h
  obtain ⟨v, ps, hrun, hv⟩ := ho.look_ok law3 Try.underlying101 (zero3 W) (plainElem_int Try.underlying3 (by decide)) (keyOf_int_mk Try.underlying3 hk)
  obtain ⟨c, rfl, hc, hwc⟩ := plainElem_int_inv Try.underlying3 hv
  rw [hrun, (hf k hk).1]
  have hcc := congrArg Prod.fst hc
  cases hfk : f k with
  | some u =>
    have := (hf k hk).2 u (.lit (.int .i64 0)) hfk
    simp only at hcc
    rw [this] at hcc
    have hcc := lit_inj hcc
    simp only [hcc, Option.getD_some, Option.isSome_some]
  | none =>
    have hno : Maps.has D (.int .i64 k) = false := by rw [(hf k hk).1, hfk]; rfl
    simp only at hcc
    rw [Maps.atKey_of_not_has hno] at hcc
    have hcc := lit_inj hcc
    simp only [← hcc, Option.getD_none, Option.isSome_none]
theorem IMap.made (w : World) : IMap (w.alloc (.map #[] 0)) w.heap.size 0 (fun _ => none) :=
  ⟨_, World.ownsMap_made w Try.prog 3 _, Maps.isMap_empty, fun k hk => ⟨rfl, fun v z e => by cases e⟩⟩
theorem IMap.kept {W W' : World} {b N : Nat} {f : Int → Option Int} {row : Option Nat} (h : IMap W b N f) (hg : W.grownBy W' row) (hne : some b ≠ row) : IMap W' b N f := by
  obtain ⟨D, ho, r⟩ := h
  exact ⟨D, ho.kept hg hne, r⟩
theorem IMap.same {W W' : World} {b N : Nat} {f : Int → Option Int} (h : IMap W b N f) (hb : W'.heap[b]? = W.heap[b]?) : IMap W' b N f := by
  obtain ⟨D, ⟨es, clock, h1, h2⟩, r⟩ := h
  exact ⟨D, ⟨es, clock, hb.trans h1, h2⟩, r⟩
theorem IMap.lt {W : World} {b N : Nat} {f : Int → Option Int} (h : IMap W b N f) : b < W.heap.size := by
  obtain ⟨D, ⟨es, clock, h1, h2⟩, r⟩ := h
  exact (Array.getElem?_eq_some_iff.1 h1).1
theorem wf64 {x : Int} (h : -9223372036854775808 ≤ x ∧ x ≤ 9223372036854775807) : (Lit.int .i64 x).wf = true := WalkArith.wf_i64 (by omega)
end Go.Proofs.Ytedghbjmhcgilaa.A
end
section
namespace Go.Proofs.Ytedghbjmhcgilaa.A
open Go
variable {F : Fence} {n : Nat} {P : Program} {ops : Array Oper} {md : Region.Mode} {C : World → Prop}
theorem wpIn_of_quiet_round {ln : Nat} {o : Oper} {a : Act} {K : Act → Prop} {K' : Act → World → Prop} {Q' : Exit → Act → World → Prop} {w : World} (hnd : ∀ c, o.op ≠ .defer c) (hw : C w) (h : ∀ a w', C w' → K a → K' a w')
    (ha : o.askedIn F P a C) (hh : o.quietIn F n P a C K) : o.wpIn (F.inRound ln) n P a w K' Q' := by
  obtain ⟨v, h1, h2⟩ := hh
  have h3 := h1 w hw
  unfold Oper.quietAtIn at h3
  unfold Oper.wpIn
  refine ⟨ha w hw, ?_⟩
  rw [Oper.semAt_eq _ _ _ hnd]
  generalize (execOp a.eval o).run P w = r at *
  cases r with
  | ok x w' =>
    cases x <;> simp only [Oper.quietUponIn] at h3 <;> simp only [Oper.uponIn]
    case value u =>
      obtain ⟨e1, e2⟩ := h3
      rw [e1, e2]
      exact h _ _ hw h2
    case skip =>
      obtain ⟨e1, e2⟩ := h3
      rw [e1, ← e2]
      exact h _ _ hw h2
    case enter f args =>
      obtain ⟨e1, hd, hc⟩ := h3
      rw [e1]
      exact ⟨hd, CallsIn.inRound ln (hc.mono fun e w'' ⟨he, hw''⟩ => by subst he; exact h _ _ hw'' h2)⟩
  | halt x w' => simp only [Oper.quietUponIn] at h3
def noDefer (ops : Array Oper) : Bool := ops.all fun o => match o.op with | .defer _ => false | _ => true
theorem noDefer_at {ops : Array Oper} (h : noDefer ops = true) {i : Nat} {o : Oper} (ho : ops[i]? = some o) : ∀ c, o.op ≠ .defer c := by
  intro c hc
  unfold noDefer at h
  rw [Array.all_eq_true] at h
  obtain ⟨hi, he⟩ := Array.getElem?_eq_some_iff.1 ho
  have := h i hi
  rw [he, hc] at this
  simp at this
theorem wpOpIn_of_qOpIn_round {ln : Nat} {i : Nat} {a : Act} {K : Act → Prop} {K' : Act → World → Prop} {Q' : Exit → Act → World → Prop} {w : World} (hnd : noDefer ops = true) (hC : C w) (h : ∀ a w', C w' → K a → K' a w')
    (hh : qOpIn F n P ops C i K a) : wpOpIn (F.inRound ln) n P ops Q' i K' a w := by
  unfold qOpIn at hh
  unfold wpOpIn
  split
  · rename_i ho; simp only [ho] at hh; exact h _ _ hC hh
  · rename_i o ho
    simp only [ho] at hh
    obtain ⟨ha, hh⟩ := hh
    split
    · rename_i hw; simp only [hw, if_true] at hh; exact wpIn_of_quiet_round (noDefer_at hnd ho) hC h ha hh
    · rename_i hw; simp only [hw] at hh; exact ⟨ha w hC, h _ _ hC hh⟩
theorem wpAnyIn_of_quiet_round {ln : Nat} {Q : Act → Prop} {Q' : Exit → Act → World → Prop} (hnd : noDefer ops = true) (hQ : ∀ a w, C w → Q a → Q' .normal a w) : ∀ (fuel : Nat) (listed : Array Bool) (a : Act) (w : World), C w →
    wpAnyQIn F n P md ops C Q fuel listed a → wpAnyIn (F.inRound ln) n P md ops Q' fuel listed a w
  | 0, _, _, _, hw, h => ⟨h.1, hQ _ _ hw h.2⟩
  | fuel + 1, _, _, _, hw, h => ⟨fun h0 => hQ _ _ hw (h.1 h0), fun i hi => wpOpIn_of_qOpIn_round hnd hw (fun a' w' hw' => wpAnyIn_of_quiet_round hnd hQ fuel _ a' w' hw') (h.2 i hi)⟩
theorem wpIn_region_quiet_round {ln : Nat} {id : Nat} {Q : Exit → Act → World → Prop} {a : Act} {w : World} {l : List Oper} (hm : P.follows .mixedOrders = true) (hB : Region.lexB .any l.toArray = true) (hnd : noDefer l.toArray = true)
    (h : wpQuietIn F n P l.toArray (fun w' => ∃ n, w' = w.drewN n) (fun a' => ∀ w', (∃ n, w' = w.drewN n) → Q .normal a' w') l a) : (Code.region id l.toArray true).wpIn (F.inRound ln) n P Q a w := by
  simp only [Region.lexB, Bool.and_eq_true] at hB
  refine wpIn_region_any hm (wpAnyIn_of_quiet_round (F := F) (C := fun w' => ∃ n, w' = w.drewN n) (Q := fun a' => ∀ w', (∃ n, w' = w.drewN n) → Q .normal a' w') hnd (fun _ w' hw' h => h w' hw') _ _ _ _ ⟨1, rfl⟩ ?_)
  have := wpAnyQIn_lex (F := F) (n := n) (P := P) (C := fun w' => ∃ n, w' = w.drewN n) (Q := fun a' => ∀ w', (∃ n, w' = w.drewN n) → Q .normal a' w') (md := .any) hB.1 l.toArray.toList 0 (Array.replicate l.toArray.size false) a (by simp) (by simpa using hB.2) (by simpa using h)
  simpa using this
end Go.Proofs.Ytedghbjmhcgilaa.A
end
