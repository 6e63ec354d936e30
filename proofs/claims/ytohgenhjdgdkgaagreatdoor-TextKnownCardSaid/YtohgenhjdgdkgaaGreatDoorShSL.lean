import Derived.Test.YtohgenhjdgdkgaaGreatDoorShSK
namespace Go.Proofs.YtohgenhjdgdkgaaGreatDoor.Sh
open Go.RowKit
set_option linter.unusedVariables false
set_option linter.unusedSimpArgs false

theorem heapsBefore_mem {E : FEnv} {ops : List Oper} {R : List Nat} {k j : Nat} : j ∈ heapsBefore E ops R k ↔ rk R j < k ∧ ∃ o, ops[j]? = some o ∧ isHeap E o = true := by
  unfold heapsBefore
  rw [List.mem_filter, List.mem_range]
  cases h : ops[j]? with
  | none => simp
  | some o =>
    have := (List.getElem?_eq_some_iff.1 h).1
    simp only [Bool.and_eq_true, blt_eq, decide_eq_true_eq]
    constructor
    · rintro ⟨_, q1, q2⟩; exact ⟨q2, o, rfl, q1⟩
    · rintro ⟨q1, o', q2, q3⟩; injection q2 with q2; subst q2; exact ⟨this, q3, q1⟩
theorem masks_lt {ops : List Oper} (hb : below ops = true) {i j : Nat} {o : Oper} (ho : ops[i]? = some o) (h : bitAt ((masks ops).getD i 0) j = true) : j < i :=
  masks_closed (D := fun x => x < i) (fun x o' hx hxi e he => by have := below_spec hb hx e he; omega) i o ho (fun e he => below_spec hb ho e he) j h
theorem Act.put_defers' (a : Act) (d : Option Tmp) (v : Value) : (a.put d v).defers = a.defers := by cases d <;> rfl
theorem put_size (a : Act) (d : Option Tmp) (v : Value) : (a.put d v).tmps.size = a.tmps.size := by cases d <;> simp [Act.put]
theorem put_at {a : Act} {nt : Nat} (hsz : a.tmps.size = nt) {d : Tmp} (hd : d < nt) (v : Value) : (a.put (some d) v).tmps.getD d undef = v := by
  show (a.tmps.setIfInBounds d v).getD d undef = v
  rw [Array.getD_eq_getD_getElem?, Array.getElem?_setIfInBounds, if_pos rfl, if_pos (by rw [hsz]; exact hd)]
  rfl
theorem put_ne {a : Act} {od : Option Tmp} {t : Nat} (h : od ≠ some t) (v : Value) : (a.put od v).tmps.getD t undef = a.tmps.getD t undef := by
  cases od with
  | none => rfl
  | some d =>
    have e : t ≠ d := fun q => h (by rw [q])
    show (a.tmps.setIfInBounds d v).getD t undef = _
    rw [Array.getD_eq_getD_getElem?, Array.getD_eq_getD_getElem?, Array.getElem?_setIfInBounds, if_neg (Ne.symm e)]
theorem gD_ne {ops : List Oper} {D : Nat → Bool} {vals : Nat → Value} {tm : F Value} {i : Nat} {o : Oper} (ho : ops[i]? = some o) {t : Nat} (ht : o.dst ≠ some t) : gD ops (fun j => if j = i then true else D j) vals tm t = gD ops D vals tm t := by
  unfold gD
  cases hw : writer ops t with
  | none => rfl
  | some j =>
    obtain ⟨o', h1, h2⟩ := writer_some hw
    have : j ≠ i := fun q => by subst q; rw [ho] at h1; injection h1 with h1; rw [h1] at ht; exact ht h2
    simp only [if_neg this]
theorem gD_at {E : FEnv} {ops : List Oper} {ord R : List Nat} {nt : Nat} (hs : Stat E ops ord R nt) {D : Nat → Bool} {vals : Nat → Value} {tm : F Value} {i : Nat} {o : Oper} (ho : ops[i]? = some o) {t : Nat} (ht : o.dst = some t) : gD ops (fun j => if j = i then true else D j) vals tm t = vals i := by
  unfold gD
  rw [hs.wr i o t ho ht]
  simp
/-- What recover would find, and the round. -/
noncomputable def RcO (γ : Nat → G) (n : Nat) (kd : CallKind) (cs : List Frame) (pk : Option Value) (rnd ro : Option Nat) : Prop := Rc γ n kd cs pk ∧ RO γ n rnd ro
theorem RcO.ext {γ γ' : Nat → G} {n n' : Nat} (e : Ext γ n γ' n') {kd : CallKind} {cs : List Frame} {pk : Option Value} {rnd ro : Option Nat} (h : RcO γ n kd cs pk rnd ro) : RcO γ' n' kd cs pk rnd ro := ⟨h.1.ext e, h.2.ext e⟩
/-- Operation j's value may hang on what operation x has made. -/
noncomputable def Dep (ops : List Oper) (x j : Nat) : Prop := x = j ∨ bitAt ((masks ops).getD j 0) x = true
/-- The same block under another number. -/
noncomputable def reb (v : Value) (c : Nat) : Value := match v with
  | .pointer (some _) => .pointer (some ⟨c, 0, none⟩)
  | .slice (some _) l k => .slice (some ⟨c, 0, none⟩) l k
  | .map (some _) => .map (some c)
  | v => v
theorem reb_mk (r : Rec) (n c : Nat) : reb (r.mk n) c = r.mk c := by cases r <;> rfl
theorem Rec.len (r : Rec) (n : Nat) : (r.mk n).cells.toList.length = 1 := by cases r <;> rfl
theorem derivable_iff {o : Oper} (h : derivable o = true) : pureOp o.op = true ∧ noGlob (opsOf o.op) = true := by
  unfold derivable at h
  rwa [Bool.and_eq_true] at h
theorem pure_quiet {E : FEnv} {o : Op} (h : pureOp o = true) : quiet E o = true := by
  unfold pureOp at h
  split at h
  · rfl
  · cases h
/-- Where a drawn region stands: what is done, what was made early. -/
structure Inv0 (E : FEnv) (ops : List Oper) (R : List Nat) (L : List (Value × AH)) (HF : AH) (tm : F Value) (nt : Nat) (base : Bs) (w0 : World) (df : List ADef) (kd : CallKind) (cs : List Frame) (pk : Option Value) (rnd ro : Option Nat)
    (γ : Nat → G) (w : World) (a : Act) (D : Nat → Bool) (p : Nat) (Hc : AH) (pend : List (Nat × Nat × Obj)) : Prop where
  cur : hAt L HF p = Hc
  le : p ≤ ops.length
  lo : ∀ i o, ops[i]? = some o → isHeap E o = true → rk R i < p → D i = true
  hi : ∀ i o, ops[i]? = some o → isHeap E o = true → p ≤ rk R i → D i = true → (hAt L HF (rk R i + 1) = hAt L HF (rk R i) ∧ ∀ x ∈ pend, x.1 ≠ i) ∨ ∃ x ∈ pend, x.1 = i
  pe : ∀ x ∈ pend, p ≤ rk R x.1 ∧ D x.1 = true ∧ ∃ o r, ops[x.1]? = some o ∧ isHeap E o = true ∧ vAt L (rk R x.1) = Rec.mk r (hAt L HF (rk R x.1)).next ∧ hAt L HF (rk R x.1 + 1) = r.heap (hAt L HF (rk R x.1)) ∧ RecRel γ Hc.next r x.2.2 ∧ ∀ d, o.dst = some d → a.tmps.getD d undef = r.mk x.2.1
  inj : ∀ x ∈ pend, ∀ y ∈ pend, x.2.1 = y.2.1 ↔ x.1 = y.1
  out : ∀ x ∈ pend, ∀ q ∈ base.pin, q.1 ≠ x.2.1
  cl : ∀ i o, ops[i]? = some o → D i = true → ∀ e ∈ edgesOf o, D e = true
  rel : HRel γ ⟨base.n, pend.map (·.2) ++ base.pin⟩ w0 Hc w
  sz : a.tmps.size = nt
  all : ∀ t γ' n', Ext γ Hc.next γ' n' → (∀ j, writer ops t = some j → D j = true → ∀ x ∈ pend, Dep ops x.1 j → VRel γ' n' (vAt L (rk R x.1)) (reb (vAt L (rk R x.1)) x.2.1)) → VRel γ' n' (gD ops D (fun j => vAt L (rk R j)) tm t) (a.tmps.getD t undef)
  shp : ∀ t, (gD ops D (fun j => vAt L (rk R j)) tm t).cells.toList.length = (a.tmps.getD t undef).cells.toList.length
  dfs : DsRel γ Hc.next df a.defers
  rc : RcO γ Hc.next kd cs pk rnd ro
theorem Inv0.tms {E : FEnv} {ops : List Oper} {R : List Nat} {L : List (Value × AH)} {HF : AH} {tm : F Value} {nt : Nat} {base : Bs} {w0 : World} {df : List ADef} {kd : CallKind} {cs : List Frame} {pk : Option Value} {rnd ro : Option Nat}
    {γ : Nat → G} {w : World} {a : Act} {D : Nat → Bool} {p : Nat} {Hc : AH} {pend : List (Nat × Nat × Obj)} (h : Inv0 E ops R L HF tm nt base w0 df kd cs pk rnd ro γ w a D p Hc pend) (t : Nat) (ht : ∀ j, writer ops t = some j → D j = true → ∀ x ∈ pend, ¬ Dep ops x.1 j) : VRel γ Hc.next (gD ops D (fun j => vAt L (rk R j)) tm t) (a.tmps.getD t undef) :=
  h.all t γ Hc.next (Ext.refl _ _) (fun j hj hd x hx dep => absurd dep (ht j hj hd x hx))
/-- What was made early is taken in, up to the first operation on memory that is not done. -/
theorem Inv0.advance {E : FEnv} {ops : List Oper} {ord R : List Nat} {nt0 : Nat} (hs : Stat E ops ord R nt0) {L : List (Value × AH)} {HF : AH} {tm : F Value} {nt : Nat} {base : Bs} {w0 : World} {df : List ADef} {kd : CallKind} {cs : List Frame} {pk : Option Value} {rnd ro : Option Nat}
    {w : World} {a : Act} {D : Nat → Bool} (hq : ∀ j o, ops[j]? = some o → isHeap E o = false → hAt L HF (rk R j + 1) = hAt L HF (rk R j)) : ∀ (m p : Nat) (γ : Nat → G) (Hc : AH) (pend : List (Nat × Nat × Obj)), p + m = ops.length → Inv0 E ops R L HF tm nt base w0 df kd cs pk rnd ro γ w a D p Hc pend →
    ∃ γ' b' Hc' pend', Ext γ Hc.next γ' Hc'.next ∧ Inv0 E ops R L HF tm nt base w0 df kd cs pk rnd ro γ' w a D b' Hc' pend' ∧ (b' < ops.length → ∃ i o, ops[i]? = some o ∧ isHeap E o = true ∧ D i = false ∧ rk R i = b') := by
  intro m
  induction m with
  | zero => intro p γ Hc pend hm h; exact ⟨γ, p, Hc, pend, Ext.refl _ _, h, fun q => by omega⟩
  | succ m ih =>
    intro p γ Hc pend hm h
    obtain ⟨z, hz, _, hrk⟩ := hs.o2 p (by omega)
    have ho : ops[z]? = some (ops[z]'hz) := List.getElem?_eq_getElem _
    have hne : ∀ i o, ops[i]? = some o → i ≠ z → rk R i ≠ p := fun i o hi e q => e (hs.rk_inj (List.getElem?_eq_some_iff.1 hi).1 hz (by rw [q, hrk]))
    have pass : hAt L HF (p + 1) = Hc → (∀ x ∈ pend, x.1 ≠ z) → (isHeap E (ops[z]'hz) = true → D z = true) → Inv0 E ops R L HF tm nt base w0 df kd cs pk rnd ro γ w a D (p + 1) Hc pend := by
      intro e1 e2 e3
      refine ⟨e1, by omega, fun i o hi hh hlt => ?_, fun i o hi hh hle => h.hi i o hi hh (by omega), fun x hx => ?_, h.inj, h.out, h.cl, h.rel, h.sz, h.all, h.shp, h.dfs, h.rc⟩
      · by_cases e : i = z
        · subst e; rw [ho] at hi; injection hi with hi; subst hi; exact e3 hh
        · have := hne i o hi e
          exact h.lo i o hi hh (by omega)
      · obtain ⟨q1, q2, o, r, q3, q4⟩ := h.pe x hx
        have := hne x.1 o q3 (e2 x hx)
        exact ⟨by omega, q2, o, r, q3, q4⟩
    cases hh : isHeap E (ops[z]'hz) with
    | false =>
      refine ih (p + 1) γ Hc pend (by omega) (pass ?_ ?_ (fun q => by rw [hh] at q; cases q))
      · rw [← hrk, hq z _ ho hh, hrk]; exact h.cur
      · intro x hx e
        obtain ⟨_, _, o, r, q1, q2, _⟩ := h.pe x hx
        rw [e, ho] at q1
        injection q1 with q1
        rw [q1, q2] at hh
        cases hh
    | true =>
      cases hD : D z with
      | false => exact ⟨γ, p, Hc, pend, Ext.refl _ _, h, fun _ => ⟨z, _, ho, hh, hD, hrk⟩⟩
      | true =>
        rcases h.hi z _ ho hh (by omega) hD with ⟨q1, q2⟩ | ⟨x, hx, rfl⟩
        · exact ih (p + 1) γ Hc pend (by omega) (pass (by rw [← hrk, q1, hrk]; exact h.cur) q2 (fun _ => hD))
        · obtain ⟨_, _, o, r, g1, g2, g3, g4, g5, g6⟩ := h.pe x hx
          rw [hrk] at g3 g4
          have g3' := g3
          rw [h.cur] at g3 g4
          obtain ⟨γ', k1, k2, k3⟩ := h.rel.absorb (r := r) (ob := x.2.2) (c := x.2.1) (List.mem_append_left _ (List.mem_map.2 ⟨x, hx, rfl⟩)) g5
            (b2 := ⟨base.n, (pend.filter (fun y => decide (y.1 ≠ x.1))).map (·.2) ++ base.pin⟩) rfl (by
              intro q hq
              rcases List.mem_append.1 hq with hq | hq
              · obtain ⟨y, hy, rfl⟩ := List.mem_map.1 hq
                obtain ⟨hy1, hy2⟩ := List.mem_filter.1 hy
                refine ⟨List.mem_append_left _ (List.mem_map.2 ⟨y, hy1, rfl⟩), fun e => ?_⟩
                exact (of_decide_eq_true hy2) ((h.inj y hy1 x hx).1 e)
              · exact ⟨List.mem_append_right _ hq, h.out x hx q hq⟩)
          have hmem : ∀ y, y ∈ pend.filter (fun y => decide (y.1 ≠ x.1)) ↔ y ∈ pend ∧ y.1 ≠ x.1 := fun y => by rw [List.mem_filter]; simp
          have inv : Inv0 E ops R L HF tm nt base w0 df kd cs pk rnd ro γ' w a D (p + 1) (r.heap Hc) (pend.filter (fun y => decide (y.1 ≠ x.1))) := by
            refine ⟨g4, by omega, fun i o' hi hhi hlt => ?_, fun i o' hi hhi hle hDi => ?_, fun y hy => ?_, fun y hy z hz => h.inj y ((hmem y).1 hy).1 z ((hmem z).1 hz).1, fun y hy => h.out y ((hmem y).1 hy).1, h.cl, k2, h.sz, fun t γ2 n2 e2 hyp => ?_, h.shp, h.dfs.ext k1, h.rc.ext k1⟩
            · by_cases e : i = x.1
              · subst e; exact hD
              · have := hne i o' hi e
                exact h.lo i o' hi hhi (by omega)
            · have hix : i ≠ x.1 := fun e => by subst e; omega
              rcases h.hi i o' hi hhi (by omega) hDi with ⟨u1, u2⟩ | ⟨y, hy, rfl⟩
              · exact .inl ⟨u1, fun y hy => u2 y ((hmem y).1 hy).1⟩
              · exact .inr ⟨y, (hmem y).2 ⟨hy, hix⟩, rfl⟩
            · obtain ⟨hy1, hy2⟩ := (hmem y).1 hy
              obtain ⟨u1, u2, o', r', u3, u4, u5, u6, u7, u8⟩ := h.pe y hy1
              have := hne y.1 o' u3 hy2
              exact ⟨by omega, u2, o', r', u3, u4, u5, u6, u7.ext k1, u8⟩
            · refine h.all t γ2 n2 (k1.trans e2) (fun j hj hd y hy dep => ?_)
              by_cases e3 : y.1 = x.1
              · rw [e3, (h.inj y hy x hx).2 e3, hrk, g3, reb_mk]
                exact k3.ext e2
              · exact hyp j hj hd y ((hmem y).2 ⟨hy, e3⟩) dep
          obtain ⟨γ2, b2, H2, p2, m1, m2, m3⟩ := ih (p + 1) γ' (r.heap Hc) _ (by omega) inv
          exact ⟨γ2, b2, H2, p2, k1.trans m1, m2, m3⟩
section
variable {E : FEnv} {call : CallT}
/-- What the checks give. -/
theorem check_spec {ops : List Oper} {R : List Nat} {L : List (Value × AH)} {tmF : F Value} {b kk : Nat} {Hs : AH} {tm0 : F Value} {lim : Nat} (h : checkAt E ops (masks ops) R L tm0 tmF lim b kk Hs = true) {i : Nat} {o : Oper} (ho : ops[i]? = some o) (hq : quiet E o.op = true) (hil : rk R i < lim) (hw : wantedO ops (oldOr ops (masks ops) i tm0 tmF) o = true) (h1 : bitAt ((masks ops).getD i 0) b = false) (h2 : ∀ j ∈ heapsBefore E ops R kk, bitAt ((masks ops).getD j 0) i = false) :
    aop E (evO (oldOr ops (masks ops) i tm0 tmF) Hs.g0) o.op Hs = some (.val (vAt L (rk R i)), Hs) := by
  have hi := (List.getElem?_eq_some_iff.1 ho).1
  have := List.all_eq_true.1 h i (List.mem_range.2 hi)
  rw [ho] at this
  have hbl : Nat.blt (rk R i) lim = true := by rw [blt_eq]; simpa using hil
  have hc : (quiet E o.op && Nat.blt (rk R i) lim && wantedO ops (oldOr ops (masks ops) i tm0 tmF) o && !(bitAt ((masks ops).getD i 0) b) && (heapsBefore E ops R kk).all fun h => !(bitAt ((masks ops).getD h 0) i)) = true := by
    rw [hq, hbl, hw, h1]
    simp only [Bool.not_false, Bool.and_self, Bool.true_and]
    refine List.all_eq_true.2 fun j hj => ?_
    rw [h2 j hj]; rfl
  simp only [hc] at this
  split at this
  · rename_i v H1 u Hu ha hL
    have hv := vEq_eq _ _ _ this
    obtain ⟨e1, _⟩ := quiet_same hq ha
    subst e1
    have : vAt L (rk R i) = u := by unfold vAt; rw [hL]
    rw [this, ← hv]
    exact ha
  · cases this
/-- The walk through a drawn region, up to a place of the order. -/
theorem drawn_main (hE : E.OK) (hc : CallOK E call) {ops : Array Oper} {ord R : List Nat} {fr : Fr} (hs : Stat E ops.toList ord R fr.nt) {L : List (Value × AH)} {tmF : F Value} {HF : AH} {lim : Nat} (hlim : lim ≤ ops.toList.length) (hlen : L.length = ops.toList.length) (htmF : tmF = tmA (permOps ops.toList ord) L lim fr.tm)
    (hspec : ∀ (i : Nat) (o : Oper), ops.toList[i]? = some o → rk R i < lim →
      (wantedB ops.toList (tmA (permOps ops.toList ord) L (rk R i) fr.tm) o = false ∧ vAt L (rk R i) = undef ∧ hAt L HF (rk R i + 1) = hAt L HF (rk R i)) ∨ (wantedB ops.toList (tmA (permOps ops.toList ord) L (rk R i) fr.tm) o = true ∧ StepR E call (evF (tmA (permOps ops.toList ord) L (rk R i) fr.tm) (hAt L HF (rk R i)).g0) (hAt L HF (rk R i)) o (vAt L (rk R i)) (hAt L HF (rk R i + 1))))
    (hcheck : ∀ bI o, ops.toList[bI]? = some o → isHeap E o = true → rk R bI ≤ lim → checkAt E ops.toList (masks ops.toList) R L fr.tm tmF lim bI (rk R bI) (hAt L HF (rk R bI)) = true)
    (hcheckE : lim = ops.toList.length → checkAt E ops.toList (masks ops.toList) R L fr.tm tmF lim ops.toList.length ops.toList.length (hAt L HF ops.toList.length) = true)
    (hquiet : ∀ j o, ops.toList[j]? = some o → isHeap E o = false → hAt L HF (rk R j + 1) = hAt L HF (rk R j))
    (hafter : ∀ i z, i < ops.toList.length → z < ops.toList.length → rk R z = lim → lim < rk R i → bitAt ((masks ops.toList).getD i 0) z = true)
    (hzh : ∀ z o, ops.toList[z]? = some o → rk R z = lim → isHeap E o = true ∧ movable o.op = false)
    {base : Bs} {w0 : World} {b : Frame} {k : List Item} {cs : List Frame} {ee : Ex} {frr : Fr} {Hr : AH}
    (hnil : lim = ops.toList.length → ∀ (γ : Nat → G) (w : World) (a : Act) (D : Nat → Bool) (bI : Nat) (Hc : AH) (pend : List (Nat × Nat × Obj)), Inv0 E ops.toList R L HF fr.tm fr.nt base w0 fr.df b.kind cs fr.pk fr.rnd b.roundOf γ w a D bI Hc pend → (bI < ops.toList.length → ∃ z o, ops.toList[z]? = some o ∧ isHeap E o = true ∧ D z = false ∧ rk R z = bI) → (∀ i, i < ops.size → D i = true) → Runs E.P (lone (b.atR a (.inRegion ops [] :: k)) cs w) b k cs γ base w0 Hc.next fr.rc ee frr Hr)
    (hzz : ∀ (γ : Nat → G) (w : World) (a : Act) (D : Nat → Bool) (Hc : AH) (pend : List (Nat × Nat × Obj)) (i : Nat) (o : Oper) (l : List Nat), Inv0 E ops.toList R L HF fr.tm fr.nt base w0 fr.df b.kind cs fr.pk fr.rnd b.roundOf γ w a D lim Hc pend → ops[i]? = some o → rk R i = lim → Region.wanted o (yielded ops a.tmps) = wantedB ops.toList (tmA (permOps ops.toList ord) L (rk R i) fr.tm) o → EvRel γ Hc.next (evP (fun t => (looks ops.toList o).contains t) (gD ops.toList D (fun j => vAt L (rk R j)) fr.tm) Hc.g0) a.eval →
      (∀ H1, aop E (evP (fun t => (looks ops.toList o).contains t) (gD ops.toList D (fun j => vAt L (rk R j)) fr.tm) Hc.g0) o.op H1 = aop E (evF (tmA (permOps ops.toList ord) L (rk R i) fr.tm) Hc.g0) o.op H1) → Runs E.P (lone (b.atR a (.inRegion ops (i :: l) :: k)) cs w) b k cs γ base w0 Hc.next fr.rc ee frr Hr) :
    ∀ (D : Nat → Bool) (l : List Nat), Sched ops D l → ∀ (γ : Nat → G) (w : World) (a : Act) (bI : Nat) (Hc : AH) (pend : List (Nat × Nat × Obj)), Inv0 E ops.toList R L HF fr.tm fr.nt base w0 fr.df b.kind cs fr.pk fr.rnd b.roundOf γ w a D bI Hc pend → (bI < ops.toList.length → ∃ z o, ops.toList[z]? = some o ∧ isHeap E o = true ∧ D z = false ∧ rk R z = bI) → (∀ z, z < ops.toList.length → rk R z = lim → D z = false) →
      Runs E.P (lone (b.atR a (.inRegion ops l :: k)) cs w) b k cs γ base w0 Hc.next fr.rc ee frr Hr := by
  have hnol : ops.toList.length = ops.size := Array.length_toList
  have hget : ∀ {i : Nat} {o : Oper}, ops[i]? = some o → ops.toList[i]? = some o := fun h => by rw [Array.getElem?_toList]; exact h
  have hln : ∀ {i : Nat} {o : Oper}, ops.toList[i]? = some o → i < ops.toList.length := fun h => (List.getElem?_eq_some_iff.1 h).1
  intro D l hsd
  induction hsd with
  | nil D hall =>
    intro γ w a bI Hc pend I hat hDz
    refine hnil ?_ γ w a D bI Hc pend I hat hall
    false_or_by_contra
    obtain ⟨z, hz, _, hzr⟩ := hs.o2 lim (by omega)
    have := hDz z hz hzr
    rw [hall z (by omega)] at this
    cases this
  | cons D i l o ho hDi he hrest ih =>
    intro γ w a bI Hc pend I hat hDz
    have hol := hget ho
    have hin : i < ops.size := (Array.getElem?_eq_some_iff.1 ho).1
    have hPi : ∀ j, bitAt ((masks ops.toList).getD i 0) j = true → D j = true := masks_closed (D := fun x => D x = true) (fun x o' hx hxd e hee => I.cl x o' hx hxd e hee) i o hol he
    have hil : rk R i ≤ lim := by
      false_or_by_contra
      by_cases q : lim < ops.toList.length
      · obtain ⟨z, hz, _, hzr⟩ := hs.o2 lim q
        have := hDz z hz hzr
        rw [hPi z (hafter i z (hln hol) hz hzr (by omega))] at this
        cases this
      · have := hs.rk_lt (hln hol); omega
    have hDz2 : rk R i < lim → ∀ z, z < ops.toList.length → rk R z = lim → (if z = i then true else D z) = false := by
      intro hr z hz hzr
      have : z ≠ i := fun q => by subst q; omega
      rw [if_neg this]; exact hDz z hz hzr
    have hPd : ∀ j o', ops.toList[j]? = some o' → D j = true → ∀ h, bitAt ((masks ops.toList).getD j 0) h = true → D h = true := fun j o' hj hd => masks_closed (D := fun x => D x = true) (fun x o' hx hxd e hee => I.cl x o' hx hxd e hee) j o' hj (I.cl j o' hj hd)
    -- what was made early is not looked at
    have hpd : ∀ x ∈ pend, bitAt ((masks ops.toList).getD i 0) x.1 = true → derivFor ops.toList (masks ops.toList) x.1 i = true := by
      intro x hx hb
      false_or_by_contra
      rename_i hnd
      by_cases hu : True
      case neg => exact hu trivial
      case pos =>
        obtain ⟨q1, q2, oj, _, q3, q4, _⟩ := I.pe x hx
        have hjl := hln q3
        have hjr := hs.rk_lt hjl
        obtain ⟨z, ob, hob, hhb, hDb, hzr⟩ := hat (by omega)
        by_cases e2 : x.1 = z
        · rw [e2, hDb] at q2; cases q2
        · have : rk R x.1 ≠ bI := fun q => e2 (hs.rk_inj hjl (hln hob) (by rw [q, hzr]))
          have hm : z ∈ heapsBefore E ops.toList R (rk R x.1) := heapsBefore_mem.2 ⟨by omega, ob, hob, hhb⟩
          rcases hs.chain x.1 oj q3 q4 with q | ⟨_, _, q⟩
          · rw [hPd x.1 oj q3 q2 z (q z hm)] at hDb; cases hDb
          · rcases q i (by omega) hb with q | q
            · exact hnd q
            · rw [hPi z (q z hm)] at hDb; cases hDb
    have hnop : derivable o = false → ∀ x ∈ pend, bitAt ((masks ops.toList).getD i 0) x.1 = false := by
      intro hdv x hx
      cases hb : bitAt ((masks ops.toList).getD i 0) x.1 with
      | false => rfl
      | true =>
        have q := hpd x hx hb
        unfold derivFor at q
        rw [hol] at q
        simp only [hdv, Bool.false_and] at q
        cases q
    have hafterD : ∀ j, j < ops.toList.length → bitAt ((masks ops.toList).getD j 0) i = true → D j = false := by
      intro j hj hb
      cases hd : D j with
      | false => rfl
      | true =>
        have := hPd j (ops.toList[j]'hj) (List.getElem?_eq_getElem _) hd i hb
        rw [hDi] at this; cases this
    have hlook : ∀ t ∈ looks ops.toList o, gD ops.toList D (fun j => vAt L (rk R j)) fr.tm t = (tmA (permOps ops.toList ord) L (rk R i) fr.tm).get undef t ∧ ∀ j, writer ops.toList t = some j → D j = true → bitAt ((masks ops.toList).getD i 0) j = true := by
      intro t ht
      refine ⟨?_, fun j hw hdj => ?_⟩
      · rw [tmA_get hs hlen fr.tm (rk R i) (by have := hs.rk_lt (hln hol); omega) t]
        unfold gD
        cases hw : writer ops.toList t with
        | none => rfl
        | some j =>
          obtain ⟨oj, hoj, _⟩ := writer_some hw
          rcases hs.look i o t j hol ht hw with hb | hb
          · have hr := hs.top i j (hln hol) (hln hoj) hb
            simp only [hPi j hb, if_true, hr, decide_true]
          · have hr := hs.top j i (hln hoj) (hln hol) hb
            have hn : ¬ rk R j < rk R i := by omega
            simp [hafterD j (hln hoj) hb, hn]
      · rcases hs.look i o t j hol ht hw with hb | hb
        · exact hb
        · obtain ⟨oj, hoj, _⟩ := writer_some hw
          rw [hafterD j (hln hoj) hb] at hdj
          cases hdj
    have hdep : ∀ t ∈ looks ops.toList o, ∀ j, writer ops.toList t = some j → D j = true → ∀ x, Dep ops.toList x j → bitAt ((masks ops.toList).getD i 0) x = true := by
      intro t ht j hw hdj x dep
      have h1 := (hlook t ht).2 j hw hdj
      rcases dep with rfl | dep
      · exact h1
      · exact masks_trans (fun i o h => below_spec hs.bel h) i o hol j x h1 dep
    have hlookF : rk R i < lim → ∀ t ∈ looks ops.toList o, gD ops.toList D (fun j => vAt L (rk R j)) fr.tm t = oldOr ops.toList (masks ops.toList) i fr.tm tmF t := by
      intro hr0 t ht
      unfold oldOr
      cases hw : writer ops.toList t with
      | none => unfold gD; rw [hw]
      | some j =>
        obtain ⟨oj, hoj, _⟩ := writer_some hw
        simp only
        cases hb : bitAt ((masks ops.toList).getD i 0) j with
        | true =>
          simp only
          rw [htmF, tmA_get hs hlen fr.tm lim hlim t]
          unfold gD
          rw [hw]
          have hr := hs.top i j (hln hol) (hln hoj) hb
          simp only [hPi j hb, if_true, show rk R j < lim by omega, decide_true]
        | false =>
          simp only
          have hb2 : bitAt ((masks ops.toList).getD j 0) i = true := by
            rcases hs.look i o t j hol ht hw with q | q
            · rw [hb] at q; cases q
            · exact q
          unfold gD
          rw [hw]
          simp [hafterD j (hln hoj) hb2]
    have hokm : derivable o = false → ∀ t ∈ looks ops.toList o, VRel γ Hc.next (gD ops.toList D (fun j => vAt L (rk R j)) fr.tm t) (a.tmps.getD t undef) := fun hdv t ht => I.tms t (fun j hj hd x hx dep => by
      have h1 := hnop hdv x hx
      rw [hdep t ht j hj hd x.1 dep] at h1
      cases h1)
    have hokv : derivable o = false → ∀ t, (looks ops.toList o).contains t = true → VRel γ Hc.next (gD ops.toList D (fun j => vAt L (rk R j)) fr.tm t) (a.tmps.getD t undef) := fun hdv t ht => hokm hdv t (by simpa using ht)
    have hdh : isHeap E o = true → derivable o = false := by
      intro hh
      cases hd : derivable o with
      | false => rfl
      | true =>
        unfold isHeap at hh
        rw [pure_quiet (derivable_iff hd).1] at hh
        cases hh
    have hwant : Region.wanted o (yielded ops a.tmps) = wantedB ops.toList (tmA (permOps ops.toList ord) L (rk R i) fr.tm) o := by
      cases hdv : derivable o with
      | false =>
        rw [wantedG_ok o (fun j want oj d hg hoj hd => hokm hdv d (by unfold looks; rw [hg]; simp only [hoj, hd]; simp)), wantedB_G]
        exact wantedG_congr fun t ht => (hlook t ht).1
      | true =>
        rw [wantedG_ok (γ := γ) (n := Hc.next) (g := gD ops.toList D (fun j => vAt L (rk R j)) fr.tm) o (fun j want oj d hg hoj hd => I.tms d (fun j' hj' hdj x hx dep => by
          have ht : d ∈ looks ops.toList o := by unfold looks; rw [hg]; simp only [hoj, hd]; simp
          have hwj := hs.wr j oj d hoj hd
          rw [hwj] at hj'
          injection hj' with hj'
          subst hj'
          have q := hpd x hx (hdep d ht j hwj hdj x.1 dep)
          unfold derivFor at q
          rw [hol] at q
          simp only [hg, Bool.and_eq_true] at q
          rcases dep with e | e
          · have h1 := q.2.1
            rw [e, show Nat.beq j j = true from Nat.beq_refl j] at h1
            cases h1
          · have h1 := q.2.2
            rw [e] at h1
            cases h1)), wantedB_G]
        exact wantedG_congr fun t ht => (hlook t ht).1
    have hwantF : rk R i < lim → wantedB ops.toList (tmA (permOps ops.toList ord) L (rk R i) fr.tm) o = wantedO ops.toList (oldOr ops.toList (masks ops.toList) i fr.tm tmF) o := by
      intro hr0
      rw [wantedB_G]
      exact wantedG_congr fun t ht => (hlook t ht).1.symm.trans (hlookF hr0 t ht)
    -- the marks behind this operation
    have hcl : ∀ j o', ops.toList[j]? = some o' → (if j = i then true else D j) = true → ∀ e ∈ edgesOf o', (if e = i then true else D e) = true := by
      intro j o' hj hd e hee
      have : D e = true := by
        by_cases q : j = i
        · subst q; rw [hol] at hj; injection hj with hj; subst hj; exact he e hee
        · rw [if_neg q] at hd; exact I.cl j o' hj hd e hee
      rw [this]; split <;> rfl
    have hDup : ∀ j, D j = true → (if j = i then true else D j) = true := by
      intro j hj; rw [hj]; split <;> rfl
    have hnp : ∀ x ∈ pend, x.1 ≠ i := fun x hx e => by
      have := (I.pe x hx).2.1
      rw [e, hDi] at this; cases this
    -- a slot of something made early is not this operation's
    have hdn : ∀ x ∈ pend, ∀ ox d, ops.toList[x.1]? = some ox → ox.dst = some d → o.dst ≠ some d := by
      intro x hx ox d hox hd q
      have w1 := hs.wr x.1 ox d hox hd
      have w2 := hs.wr i o d hol q
      rw [w1] at w2
      injection w2 with w2
      exact hnp x hx w2
    -- where the stage is
    have hstage : isHeap E o = true → rk R i = bI ∨ (bI < rk R i ∧ movable o.op = true ∧ noGlob (opsOf o.op) = true) := by
      intro hh
      have hge : ¬ rk R i < bI := fun q => by rw [I.lo i o hol hh q] at hDi; cases hDi
      by_cases e : rk R i = bI
      · exact .inl e
      · right
        obtain ⟨z, ob, hob, hhb, hDb, hzr⟩ := hat (by have := hs.rk_lt (hln hol); omega)
        rcases hs.chain i o hol hh with q | ⟨q1, q2, _⟩
        · have := hPi z (q z (heapsBefore_mem.2 ⟨by omega, ob, hob, hhb⟩))
          rw [hDb] at this; cases this
        · exact ⟨by omega, q1, q2⟩
    -- the slots behind it
    have hall : ∀ (γ1 : Nat → G) (n1 : Nat) (v' : Value) (pend2 : List (Nat × Nat × Obj)), Ext γ Hc.next γ1 n1 → (∀ x ∈ pend, x ∈ pend2) → (∀ γ' n', Ext γ1 n1 γ' n' → (∀ x ∈ pend2, Dep ops.toList x.1 i → VRel γ' n' (vAt L (rk R x.1)) (reb (vAt L (rk R x.1)) x.2.1)) → VRel γ' n' (vAt L (rk R i)) v') → ∀ t γ' n', Ext γ1 n1 γ' n' → (∀ j, writer ops.toList t = some j → (if j = i then true else D j) = true → ∀ x ∈ pend2, Dep ops.toList x.1 j → VRel γ' n' (vAt L (rk R x.1)) (reb (vAt L (rk R x.1)) x.2.1)) → VRel γ' n' (gD ops.toList (fun j => if j = i then true else D j) (fun j => vAt L (rk R j)) fr.tm t) ((a.put o.dst v').tmps.getD t undef) := by
      intro γ1 n1 v' pend2 g1 hsub g3 t γ' n' e hyp
      by_cases hd : o.dst = some t
      · rw [gD_at hs hol hd, hd, put_at I.sz (hs.lt i o t hol hd)]
        exact g3 γ' n' e (fun x hx dep => hyp i (hs.wr i o t hol hd) (by simp) x hx dep)
      · rw [gD_ne hol hd, put_ne hd]
        exact I.all t γ' n' (g1.trans e) (fun j hj hdj x hx dep => hyp j hj (hDup j hdj) x (hsub x hx) dep)
    have hshp : ∀ v' : Value, (vAt L (rk R i)).cells.toList.length = v'.cells.toList.length → ∀ t, (gD ops.toList (fun j => if j = i then true else D j) (fun j => vAt L (rk R j)) fr.tm t).cells.toList.length = ((a.put o.dst v').tmps.getD t undef).cells.toList.length := by
      intro v' hv t
      by_cases hd : o.dst = some t
      · rw [gD_at hs hol hd, hd, put_at I.sz (hs.lt i o t hol hd)]; exact hv
      · rw [gD_ne hol hd, put_ne hd]; exact I.shp t
    have hev : derivable o = false → EvRel γ Hc.next (evP (fun t => (looks ops.toList o).contains t) (gD ops.toList D (fun j => vAt L (rk R j)) fr.tm) Hc.g0) a.eval := fun hdv => evP_ok I.rel (hokv hdv)
    have hcgz : ∀ H1, aop E (evP (fun t => (looks ops.toList o).contains t) (gD ops.toList D (fun j => vAt L (rk R j)) fr.tm) Hc.g0) o.op H1 = aop E (evF (tmA (permOps ops.toList ord) L (rk R i) fr.tm) Hc.g0) o.op H1 := fun H1 => by
      rw [evF_evG]
      exact aop_congrP (all := ops.toList) (fun t ht => ⟨by simpa using ht, (hlook t ht).1⟩)
    by_cases hr : rk R i < lim
    case neg =>
      have hri : rk R i = lim := by omega
      obtain ⟨h1, h2⟩ := hzh i o hol hri
      have hb : bI = lim := by
        rcases hstage h1 with e | ⟨_, q, _⟩
        · omega
        · rw [h2] at q; cases q
      subst hb
      exact hzz γ w a D Hc pend i o l I ho hri hwant (hev (hdh h1)) hcgz
    -- going on, at this stage (nothing on memory was done)
    have hstay : ∀ (γ1 : Nat → G) (w1 : World) (v' : Value), Ext γ Hc.next γ1 Hc.next → HRel γ1 ⟨base.n, pend.map (·.2) ++ base.pin⟩ w0 Hc w1 → (vAt L (rk R i)).cells.toList.length = v'.cells.toList.length → (∀ γ' n', Ext γ1 Hc.next γ' n' → (∀ x ∈ pend, Dep ops.toList x.1 i → VRel γ' n' (vAt L (rk R x.1)) (reb (vAt L (rk R x.1)) x.2.1)) → VRel γ' n' (vAt L (rk R i)) v') → Steps E.P (lone (b.atR a (.inRegion ops (i :: l) :: k)) cs w) (lone (b.atR (a.put o.dst v') (.inRegion ops l :: k)) cs w1) →
        (isHeap E o = false ∨ (bI < rk R i ∧ hAt L HF (rk R i + 1) = hAt L HF (rk R i))) → Runs E.P (lone (b.atR a (.inRegion ops (i :: l) :: k)) cs w) b k cs γ base w0 Hc.next fr.rc ee frr Hr := by
      intro γ1 w1 v' g1 g2 gs g3 g4 g5
      refine ((ih γ1 w1 (a.put o.dst v') bI Hc pend ⟨I.cur, I.le, fun j o' hj hh hlt => hDup j (I.lo j o' hj hh hlt), fun j o' hj hh hle hd => ?_, fun x hx => ?_, I.inj, I.out, hcl, g2, by rw [put_size]; exact I.sz, hall γ1 Hc.next v' pend g1 (fun x hx => hx) g3, hshp v' gs, by rw [Act.put_defers']; exact I.dfs.ext g1, I.rc.ext g1⟩ ?_ (hDz2 hr)).more g1 (Chg.refl _ _)).after g4
      · by_cases e : j = i
        · subst e
          rw [hol] at hj; injection hj with hj; subst hj
          rcases g5 with q | ⟨_, q⟩
          · rw [q] at hh; cases hh
          · exact .inl ⟨q, hnp⟩
        · rw [if_neg e] at hd; exact I.hi j o' hj hh hle hd
      · obtain ⟨q1, q2, ox, r, q3, q4, q5, q6, q7, q8⟩ := I.pe x hx
        exact ⟨q1, hDup _ q2, ox, r, q3, q4, q5, q6, q7.ext g1, fun d hd => by rw [put_ne (hdn x hx ox d q3 hd)]; exact q8 d hd⟩
      · intro hlt
        obtain ⟨z, ob, hob, hhb, hDb, hzr⟩ := hat hlt
        have : z ≠ i := fun e => by
          subst e
          rw [hol] at hob; injection hob with hob; subst hob
          rcases g5 with q | ⟨q, _⟩
          · rw [q] at hhb; cases hhb
          · omega
        exact ⟨z, ob, hob, hhb, by show (if z = i then true else D z) = false; rw [if_neg this]; exact hDb, hzr⟩
    -- going on, at the next stage
    have hgo : ∀ (γ1 : Nat → G) (w1 : World) (v' : Value), Ext γ Hc.next γ1 (hAt L HF (rk R i + 1)).next → HRel γ1 ⟨base.n, pend.map (·.2) ++ base.pin⟩ w0 (hAt L HF (rk R i + 1)) w1 → VRel γ1 (hAt L HF (rk R i + 1)).next (vAt L (rk R i)) v' → Steps E.P (lone (b.atR a (.inRegion ops (i :: l) :: k)) cs w) (lone (b.atR (a.put o.dst v') (.inRegion ops l :: k)) cs w1) →
        isHeap E o = true → rk R i = bI → Runs E.P (lone (b.atR a (.inRegion ops (i :: l) :: k)) cs w) b k cs γ base w0 Hc.next fr.rc ee frr Hr := by
      intro γ1 w1 v' g1 g2 g3 g4 g5 e
      subst e
      have inv : Inv0 E ops.toList R L HF fr.tm fr.nt base w0 fr.df b.kind cs fr.pk fr.rnd b.roundOf γ1 w1 (a.put o.dst v') (fun j => if j = i then true else D j) (rk R i + 1) (hAt L HF (rk R i + 1)) pend := by
        refine ⟨rfl, (by have := hs.rk_lt (hln hol); omega), fun j o' hj hh hlt => ?_, fun j o' hj hh hle hd => ?_, fun x hx => ?_, I.inj, I.out, hcl, g2, by rw [put_size]; exact I.sz, hall γ1 _ v' pend g1 (fun x hx => hx) (fun γ' n' e _ => g3.ext e), hshp v' g3.cells.1, by rw [Act.put_defers']; exact I.dfs.ext g1, I.rc.ext g1⟩
        · by_cases e : j = i
          · simp only [if_pos e]
          · have : rk R j ≠ rk R i := fun q => e (hs.rk_inj (hln hj) (hln hol) q)
            exact hDup j (I.lo j o' hj hh (by omega))
        · have e : j ≠ i := fun q => by subst q; omega
          rw [if_neg e] at hd; exact I.hi j o' hj hh (by omega) hd
        · obtain ⟨q1, q2, ox, r, q3, q4, q5, q6, q7, q8⟩ := I.pe x hx
          have : rk R x.1 ≠ rk R i := fun q => hnp x hx (hs.rk_inj (hln q3) (hln hol) q)
          exact ⟨by omega, hDup _ q2, ox, r, q3, q4, q5, q6, q7.ext g1, fun d hd => by rw [put_ne (hdn x hx ox d q3 hd)]; exact q8 d hd⟩
      obtain ⟨γ2, b2, H2, p2, m1, m2, m3⟩ := Inv0.advance hs hquiet (ops.toList.length - (rk R i + 1)) (rk R i + 1) γ1 _ pend (by have := hs.rk_lt (hln hol); omega) inv
      exact ((ih γ2 w1 (a.put o.dst v') b2 H2 p2 m2 m3 (hDz2 hr)).more (g1.trans m1) (Chg.refl _ _)).after g4
    rcases hspec i o hol hr with ⟨hw, hv, hh⟩ | ⟨hw, hst⟩
    · -- not wanted
      rw [hw] at hwant
      have hst := stepR_op_skip (P := E.P) (b := b) (a := a) (k := k) (cs := cs) (w := w) (ops := ops) (i := i) (rest := l) (by simp [ho, hwant])
      rw [ho] at hst
      cases hq : isHeap E o with
      | false => exact hstay γ w undef (Ext.refl _ _) I.rel (by rw [hv]) (fun _ _ _ _ => by rw [hv]; exact VRel.undef) (.one hst) (.inl hq)
      | true =>
        rcases hstage hq with e | ⟨e, _⟩
        · have hcur : hAt L HF (rk R i + 1) = Hc := by rw [hh, e]; exact I.cur
          exact hgo γ w undef (by rw [hcur]; exact Ext.refl _ _) (by rw [hcur]; exact I.rel) (by rw [hv]; exact VRel.undef) (.one hst) hq e
        · exact hstay γ w undef (Ext.refl _ _) I.rel (by rw [hv]) (fun _ _ _ _ => by rw [hv]; exact VRel.undef) (.one hst) (.inr ⟨e, hh⟩)
    · rw [hw] at hwant
      cases hq : isHeap E o with
      | true =>
        rcases hstage hq with e | ⟨e, hmv, hng⟩
        · have hst' : StepR E call (evP (fun t => (looks ops.toList o).contains t) (gD ops.toList D (fun j => vAt L (rk R j)) fr.tm) Hc.g0) Hc o (vAt L (rk R i)) (hAt L HF (rk R i + 1)) := by
            rw [show hAt L HF (rk R i) = Hc by rw [e]; exact I.cur] at hst
            unfold StepR at hst ⊢
            rw [aop_congrP (all := ops.toList) (g' := (tmA (permOps ops.toList ord) L (rk R i) fr.tm).get undef) (fun t ht => ⟨by simpa using ht, (hlook t ht).1⟩)]
            rw [evF_evG] at hst
            exact hst
          obtain ⟨γ1, v', w1, k1, k2, k3, k4⟩ := op_exec hE hc ho hwant I.rel (hev (hdh hq)) hst'
          exact hgo γ1 w1 v' k1 k2 k3 k4 hq e
        · -- made early
          have hev0 : EvRel γ Hc.next (evP (fun t => (looks ops.toList o).contains t) (gD ops.toList D (fun j => vAt L (rk R j)) fr.tm) 0) a.eval := evP_early (hokv (hdh hq))
          have hcg : ∀ g0 H1, aop E (evP (fun t => (looks ops.toList o).contains t) (gD ops.toList D (fun j => vAt L (rk R j)) fr.tm) 0) o.op H1 = aop E (evF (tmA (permOps ops.toList ord) L (rk R i) fr.tm) g0) o.op H1 := fun g0 H1 => by
            rw [evF_evG]
            exact aop_congrE (all := ops.toList) hng (fun t ht => ⟨by simpa using ht, (hlook t ht).1⟩)
          have hal : aop E (evF (tmA (permOps ops.toList ord) L (rk R i) fr.tm) (hAt L HF (rk R i)).g0) o.op (hAt L HF (rk R i)) = some (.val (vAt L (rk R i)), hAt L HF (rk R i + 1)) := by
            rcases hst with ha | ⟨ha, _⟩ | ⟨f, args, H1, ha, _⟩
            · exact ha
            · have := ha; rw [← hcg] at this; obtain ⟨r, ob, q, _⟩ := aop_mov hE hev0 hmv this; cases q
            · have := ha; rw [← hcg] at this; obtain ⟨r, ob, q, _⟩ := aop_mov hE hev0 hmv this; cases q
          rw [← hcg] at hal
          obtain ⟨r, ob, r1, r2, r3, r4⟩ := aop_mov hE hev0 hmv hal
          injection r1 with r1
          have hst := op_value (P := E.P) (b := b) (k := k) (cs := cs) (rest := l) ho hwant (aop_semAt hal (fun _ _ _ q => by cases q) _ _) (r4 w)
          have hpn := I.rel.pinned ob
          have hlt : ∀ q ∈ pend.map (·.2) ++ base.pin, q.1 < w.heap.size := fun q hq => (Array.getElem?_eq_some_iff.1 (I.rel.pins q hq).2.1).1
          refine ((ih γ (w.alloc ob) (a.put o.dst (r.mk w.heap.size)) bI Hc ((i, w.heap.size, ob) :: pend) ⟨I.cur, I.le, fun j o' hj hh hlt => hDup j (I.lo j o' hj hh hlt), fun j o' hj hh hle hd => ?_, fun x hx => ?_, fun x hx y hy => ⟨fun hxy => ?_, fun hxy => ?_⟩, fun x hx q hq => ?_, hcl, hpn, by rw [put_size]; exact I.sz, hall γ Hc.next _ _ (Ext.refl _ _) (fun x hx => List.mem_cons_of_mem _ hx) (fun γ' n' e hyp => by
            have h1 := hyp (i, w.heap.size, ob) (by simp) (.inl rfl)
            simp only at h1
            rw [r1, reb_mk] at h1
            rw [r1]
            exact h1), hshp _ (by rw [r1, Rec.len, Rec.len]), by rw [Act.put_defers']; exact I.dfs, I.rc⟩ ?_ (hDz2 hr))).after (.one hst)
          · by_cases e2 : j = i
            · exact .inr ⟨(i, w.heap.size, ob), by simp, e2.symm⟩
            · rw [if_neg e2] at hd
              rcases I.hi j o' hj hh hle hd with ⟨u1, u2⟩ | ⟨x, hx, u⟩
              · refine .inl ⟨u1, fun x hx => ?_⟩
                rcases List.mem_cons.1 hx with q | q
                · subst q; exact Ne.symm e2
                · exact u2 x q
              · exact .inr ⟨x, List.mem_cons_of_mem _ hx, u⟩
          · rcases List.mem_cons.1 hx with q | q
            · subst q
              exact ⟨by show bI ≤ rk R i; omega, by simp, o, r, hol, hq, r1, r2, r3, fun d hd => by rw [hd, put_at I.sz (hs.lt i o d hol hd)]⟩
            · obtain ⟨q1, q2, ox, r', q3, q4, q5, q6, q7, q8⟩ := I.pe x q
              exact ⟨q1, hDup _ q2, ox, r', q3, q4, q5, q6, q7, fun d hd => by rw [put_ne (hdn x q ox d q3 hd)]; exact q8 d hd⟩
          · rcases List.mem_cons.1 hx with q | q <;> rcases List.mem_cons.1 hy with q' | q'
            · subst q q'; rfl
            · subst q
              have := hlt y.2 (List.mem_append_left _ (List.mem_map.2 ⟨y, q', rfl⟩))
              have hxy' : w.heap.size = y.2.1 := hxy
              omega
            · subst q'
              have := hlt x.2 (List.mem_append_left _ (List.mem_map.2 ⟨x, q, rfl⟩))
              have hxy' : x.2.1 = w.heap.size := hxy
              omega
            · exact (I.inj x q y q').1 hxy
          · rcases List.mem_cons.1 hx with q | q <;> rcases List.mem_cons.1 hy with q' | q'
            · subst q q'; rfl
            · subst q
              exact absurd hxy.symm (hnp y q')
            · subst q'
              exact absurd hxy (hnp x q)
            · exact (I.inj x q y q').2 hxy
          · rcases List.mem_cons.1 hx with q2 | q2
            · subst q2
              have := hlt q (List.mem_append_right _ hq)
              show q.1 ≠ w.heap.size
              omega
            · exact I.out x q2 q hq
          · intro hlt2
            obtain ⟨z, ob2, hob, hhb, hDb, hzr⟩ := hat hlt2
            have : z ≠ i := fun q => by subst q; omega
            exact ⟨z, ob2, hob, hhb, by show (if z = i then true else D z) = false; rw [if_neg this]; exact hDb, hzr⟩
      | false =>
        have hqq : quiet E o.op = true := by unfold isHeap at hq; simpa using hq
        cases hdv : derivable o with
        | true =>
          obtain ⟨hpu, hng⟩ := derivable_iff hdv
          have hcg : ∀ g0 H1, aop E (evP (fun t => (looks ops.toList o).contains t) (gD ops.toList D (fun j => vAt L (rk R j)) fr.tm) 0) o.op H1 = aop E (evF (tmA (permOps ops.toList ord) L (rk R i) fr.tm) g0) o.op H1 := fun g0 H1 => by
            rw [evF_evG]
            exact aop_congrE (all := ops.toList) hng (fun t ht => ⟨by simpa using ht, (hlook t ht).1⟩)
          have hal : aop E (evF (tmA (permOps ops.toList ord) L (rk R i) fr.tm) (hAt L HF (rk R i)).g0) o.op (hAt L HF (rk R i)) = some (.val (vAt L (rk R i)), hAt L HF (rk R i + 1)) := by
            rcases hst with ha | ⟨ha, _⟩ | ⟨f, args, H1, ha, _⟩
            · exact ha
            · obtain ⟨_, v, hv⟩ := quiet_same hqq ha; cases hv
            · obtain ⟨_, v, hv⟩ := quiet_same hqq ha; cases hv
          rw [← hcg] at hal
          have hsh : ShRel (evP (fun t => (looks ops.toList o).contains t) (gD ops.toList D (fun j => vAt L (rk R j)) fr.tm) 0) a.eval := by
            intro x v hx
            cases x with
            | tmp t =>
              have hx' : (match (looks ops.toList o).contains t with | true => some (gD ops.toList D (fun j => vAt L (rk R j)) fr.tm t) | false => none) = some v := hx
              split at hx'
              · injection hx' with hx'; subst hx'; exact I.shp t
              · cases hx'
            | const u => exact (evP_early (γ := γ) (n := Hc.next) (ok := fun _ => false) (g := fun _ => undef) (a := a) (fun i h => by cases h) (.const u) v hx).cells.1
            | global u => exact (evP_early (γ := γ) (n := Hc.next) (ok := fun _ => false) (g := fun _ => undef) (a := a) (fun i h => by cases h) (.global u) v hx).cells.1
            | func u => exact (evP_early (γ := γ) (n := Hc.next) (ok := fun _ => false) (g := fun _ => undef) (a := a) (fun i h => by cases h) (.func u) v hx).cells.1
          obtain ⟨v', p1, p2⟩ := pure_len hE hsh hpu hal
          have hst2 := op_value (P := E.P) (b := b) (k := k) (cs := cs) (rest := l) ho hwant (aop_semAt hal (fun _ _ _ q => by cases q) _ _) (p2 w)
          refine hstay γ w v' (Ext.refl _ _) I.rel p1 (fun γ' n' e hyp => ?_) (.one hst2) (.inl hq)
          have hevp : EvRel γ' n' (evP (fun t => (looks ops.toList o).contains t) (gD ops.toList D (fun j => vAt L (rk R j)) fr.tm) 0) a.eval := evP_early (fun t ht => I.all t γ' n' e (fun j hj hd x hx dep => hyp x hx (.inr (hdep t (by simpa using ht) j hj hd x.1 dep))))
          obtain ⟨v2, u1, u2⟩ := pure_rel hE hevp hpu hal
          have h1 := (p2 w).symm.trans (u2 w)
          injection h1 with h1
          injection h1 with h1
          rw [h1]
          exact u1
        | false =>
          have hbef : ∀ j ∈ heapsBefore E ops.toList R bI, bitAt ((masks ops.toList).getD j 0) i = false := by
            intro j hj
            obtain ⟨hj1, oj, hoj, hhj⟩ := heapsBefore_mem.1 hj
            cases hb : bitAt ((masks ops.toList).getD j 0) i with
            | false => rfl
            | true =>
              have := hPd j oj hoj (I.lo j oj hoj hhj hj1) i hb
              rw [hDi] at this
              cases this
          have hbL : bI ≤ lim := by
            false_or_by_contra
            have := I.le
            obtain ⟨z, hz, _, hzr⟩ := hs.o2 lim (by omega)
            have hoz : ops.toList[z]? = some (ops.toList[z]'hz) := List.getElem?_eq_getElem _
            have h1 := I.lo z _ hoz (hzh z _ hoz hzr).1 (by omega)
            rw [hDz z hz hzr] at h1
            cases h1
          have hck : aop E (evO (oldOr ops.toList (masks ops.toList) i fr.tm tmF) (hAt L HF bI).g0) o.op (hAt L HF bI) = some (.val (vAt L (rk R i)), hAt L HF bI) := by
            by_cases hbl : bI < ops.toList.length
            · obtain ⟨z, ob, hob, hhb, hDb, hzr⟩ := hat hbl
              have hc0 := hcheck z ob hob hhb (by omega)
              rw [hzr] at hc0
              refine check_spec hc0 hol hqq hr (by rw [← hwantF hr]; exact hw) ?_ hbef
              cases hb : bitAt ((masks ops.toList).getD i 0) z with
              | false => rfl
              | true => rw [hPi z hb] at hDb; cases hDb
            · have hbe : bI = ops.toList.length := by have := I.le; omega
              rw [hbe] at hbef ⊢
              refine check_spec (hcheckE (by omega)) hol hqq hr (by rw [← hwantF hr]; exact hw) ?_ hbef
              cases hb : bitAt ((masks ops.toList).getD i 0) ops.toList.length with
              | false => rfl
              | true =>
                have := masks_lt hs.bel hol hb
                have := hln hol
                omega
          rw [I.cur] at hck
          have hst' : StepR E call (evP (fun t => (looks ops.toList o).contains t) (gD ops.toList D (fun j => vAt L (rk R j)) fr.tm) Hc.g0) Hc o (vAt L (rk R i)) Hc := by
            left
            rw [aop_congrP (all := ops.toList) (fun t ht => ⟨by simpa using ht, hlookF hr t ht⟩)]
            exact hck
          obtain ⟨γ1, v', w1, k1, k2, k3, k4⟩ := op_exec hE hc ho hwant I.rel (hev hdv) hst'
          exact hstay γ1 w1 v' k1 k2 k3.cells.1 (fun γ' n' e _ => k3.ext e) k4 (.inl hq)
theorem wipe_get : ∀ (ops : List Oper) (tm : F Value) (t : Nat), (wipe ops tm).get undef t = undef ∨ ((wipe ops tm).get undef t = tm.get undef t ∧ writer ops t = none) := by
  have key : ∀ (ops : List Oper) (tm : F Value) (t i : Nat), (wipe ops tm).get undef t = undef ∨ ((wipe ops tm).get undef t = tm.get undef t ∧ writerGo t ops i = none) := by
    intro ops
    induction ops with
    | nil => intro tm t i; exact .inr ⟨rfl, rfl⟩
    | cons o r ih =>
      intro tm t i
      unfold wipe writerGo
      cases hd : o.dst with
      | none => exact ih tm t (i + 1)
      | some d =>
        simp only
        rcases ih (tm.set undef d undef) t (i + 1) with q | ⟨q1, q2⟩
        · exact .inl q
        · rw [F.get_set] at q1
          by_cases e : t = d
          · left; rw [q1, if_pos e]
          · right
            rw [if_neg e] at q1
            have : Nat.beq d t = false := by
              cases hb : Nat.beq d t with
              | false => rfl
              | true => exact absurd (Nat.eq_of_beq_eq_true hb).symm e
            rw [this]
            exact ⟨q1, q2⟩
  intro ops tm t
  exact key ops tm t 0
theorem tmA_pad : ∀ (r : List Oper) (l l2 : List (Value × AH)) (j : Nat) (tm : F Value), j ≤ l.length → tmA r (l ++ l2) j tm = tmA r l j tm := by
  intro r
  induction r with
  | nil => intro l l2 j tm _; cases l <;> cases l2 <;> cases j <;> rfl
  | cons o r ih =>
    intro l l2 j tm hj
    cases j with
    | zero => cases l <;> cases l2 <;> rfl
    | succ j =>
      cases l with
      | nil => simp at hj
      | cons x l => exact ih l l2 j _ (by simpa using hj)
theorem pass1P_spec {E : FEnv} {call : CallT} {all : List Oper} : ∀ (r : List Oper) (tm : F Value) (H : AH) (l : List (Value × AH)) (tmP : F Value) (HP : AH) (v : Value) (H' : AH), pass1P E call all r tm H = some (l, tmP, HP, v, H') →
    tmP = tmA r l l.length tm ∧ hAt l HP 0 = H ∧ (∀ (k : Nat) (o : Oper), k < l.length → r[k]? = some o →
      (wantedB all (tmA r l k tm) o = false ∧ vAt l k = undef ∧ hAt l HP (k + 1) = hAt l HP k) ∨ (wantedB all (tmA r l k tm) o = true ∧ StepR E call (evF (tmA r l k tm) (hAt l HP k).g0) (hAt l HP k) o (vAt l k) (hAt l HP (k + 1)))) ∧
      ∃ o, r[l.length]? = some o ∧ wantedB all tmP o = true ∧ (aop E (evF tmP HP.g0) o.op HP = some (.panic v, H') ∨ ∃ f args H1, aop E (evF tmP HP.g0) o.op HP = some (.enter f args, H1) ∧ call f args H1 none = some (.pan v, H', false)) := by
  intro r
  induction r with
  | nil => intro tm H l tmP HP v H' h; cases h
  | cons o r ih =>
    intro tm H l tmP HP v H' h
    have key : ∀ (u : Value) (H1 : AH) (l1 : List (Value × AH)), pass1P E call all r (putT o tm u) H1 = some (l1, tmP, HP, v, H') → l = (u, H) :: l1 → ((wantedB all tm o = false ∧ u = undef ∧ H1 = H) ∨ (wantedB all tm o = true ∧ StepR E call (evF tm H.g0) H o u H1)) →
        tmP = tmA (o :: r) l l.length tm ∧ hAt l HP 0 = H ∧ (∀ (k : Nat) (o' : Oper), k < l.length → (o :: r)[k]? = some o' →
      (wantedB all (tmA (o :: r) l k tm) o' = false ∧ vAt l k = undef ∧ hAt l HP (k + 1) = hAt l HP k) ∨ (wantedB all (tmA (o :: r) l k tm) o' = true ∧ StepR E call (evF (tmA (o :: r) l k tm) (hAt l HP k).g0) (hAt l HP k) o' (vAt l k) (hAt l HP (k + 1)))) ∧
      ∃ o', (o :: r)[l.length]? = some o' ∧ wantedB all tmP o' = true ∧ (aop E (evF tmP HP.g0) o'.op HP = some (.panic v, H') ∨ ∃ f args H1, aop E (evF tmP HP.g0) o'.op HP = some (.enter f args, H1) ∧ call f args H1 none = some (.pan v, H', false)) := by
      intro u H1 l1 hp hl hst
      subst hl
      obtain ⟨g2, g3, g4, oz, g5, g6⟩ := ih _ _ _ _ _ _ _ hp
      have hs : ∀ k, hAt ((u, H) :: l1) HP (k + 1) = hAt l1 HP k := fun k => by simp [hAt]
      have hv : ∀ k, vAt ((u, H) :: l1) (k + 1) = vAt l1 k := fun k => by simp [vAt]
      refine ⟨g2, rfl, fun k o' hk ho' => ?_, oz, by simpa using g5, g6⟩
      cases k with
      | zero =>
        simp at ho'
        subst ho'
        rw [hs, g3]
        exact hst
      | succ k =>
        rw [hs, hs, hv]
        exact g4 k o' (by simpa using hk) (by simpa using ho')
    unfold pass1P at h
    simp only at h
    split at h
    · rename_i hw
      split at h
      case h_2 => cases h
      rename_i l1 x hp
      injection h with h; injection h with e1 e2
      subst e2
      exact key undef H l1 hp e1.symm (.inl ⟨hw, rfl, rfl⟩)
    · rename_i hw
      split at h
      · rename_i u H1 ha
        split at h
        case h_2 => cases h
        rename_i l1 x hp
        injection h with h; injection h with e1 e2
        subst e2
        exact key u H1 l1 hp e1.symm (.inr ⟨hw, .inl ha⟩)
      · rename_i H1 ha
        split at h
        case h_2 => cases h
        rename_i l1 x hp
        injection h with h; injection h with e1 e2
        subst e2
        exact key undef H1 l1 hp e1.symm (.inr ⟨hw, .inr (.inl ⟨ha, rfl⟩)⟩)
      · rename_i f args H1 ha
        split at h
        · rename_i u H2 hcl
          split at h
          case h_2 => cases h
          rename_i l1 x hp
          injection h with h; injection h with e1 e2
          subst e2
          exact key u H2 l1 hp e1.symm (.inr ⟨hw, .inr (.inr ⟨f, args, H1, ha, hcl⟩)⟩)
        · rename_i u H2 hcl
          injection h with h; injection h with e1 h; injection h with e2 h; injection h with e3 h; injection h with e4 e5
          subst e1 e2 e3 e4 e5
          exact ⟨rfl, rfl, fun k o' hk => absurd hk (Nat.not_lt_zero _), o, rfl, hw, .inr ⟨f, args, H1, ha, hcl⟩⟩
        · cases h
      · rename_i u H1 ha
        injection h with h; injection h with e1 h; injection h with e2 h; injection h with e3 h; injection h with e4 e5
        subst e1 e2 e3 e4 e5
        exact ⟨rfl, rfl, fun k o' hk => absurd hk (Nat.not_lt_zero _), o, rfl, hw, .inl ha⟩
      · cases h
theorem drawnP_ok (hE : E.OK) (hc : CallOK E call) (ops : Array Oper) (ord R : List Nat) (fr : Fr) (H : AH) (e : Ex) (fr' : Fr) (H' : AH) (hs : Stat E ops.toList ord R fr.nt) (h : drawnP E call ops.toList (masks ops.toList) ord R fr H = some (e, fr', H'))
    (γ : Nat → G) (base : Bs) (w0 w : World) (b : Frame) (a : Act) (k : List Item) (cs : List Frame) (t : Nat) (hR : HRel γ base w0 H w) (hF : FrRel γ H.next fr a) (hP : Rc γ H.next b.kind cs fr.pk) (hQ : RO γ H.next fr.rnd b.roundOf) :
      Runs E.P (lone (b.atR a (.inRegion ops (Region.schedule (E.P.follows .mixedOrders) ops t) :: k)) cs w) b k cs γ base w0 H.next fr.rc e fr' H' := by
  unfold drawnP at h
  split at h
  case h_2 => cases h
  rename_i L0 tmP HP v H1 hp
  split at h
  case h_2 => cases h
  rename_i z hz
  split at h
  case h_2 => cases h
  rename_i oz hoz
  split at h
  case h_2 => cases h
  rename_i hchk
  injection h with h; injection h with e1 e2; injection e2 with e2 e3; subst e1 e2 e3
  rw [Bool.and_eq_true, Bool.and_eq_true, Bool.and_eq_true] at hchk
  obtain ⟨⟨⟨hzh, hzm⟩, hafter⟩, hchk1⟩ := hchk
  have hnol : ops.toList.length = ops.size := Array.length_toList
  have hpl : (permOps ops.toList ord).length = ops.toList.length := by unfold permOps; rw [List.length_map, hs.ol]
  have hget : ∀ {i : Nat} {o : Oper}, ops[i]? = some o → ops.toList[i]? = some o := fun h => by rw [Array.getElem?_toList]; exact h
  have hln : ∀ {i : Nat} {o : Oper}, ops.toList[i]? = some o → i < ops.toList.length := fun h => (List.getElem?_eq_some_iff.1 h).1
  obtain ⟨htmP, hH0, hspec0, oq, hoq, hwz, hpz⟩ := pass1P_spec _ _ _ _ _ _ _ _ hp
  have hk : L0.length < ops.toList.length := by
    have := (List.getElem?_eq_some_iff.1 hoq).1
    omega
  have hzr : rk R z = L0.length := by
    obtain ⟨z2, _, h2, h3⟩ := hs.o2 L0.length hk
    rw [hz] at h2; injection h2 with h2
    rw [h2]; exact h3
  have hoqz : oq = oz := by
    have := perm_get hz hoz
    rw [hoq] at this; injection this
  subst hoqz
  generalize hLdef : L0 ++ List.replicate (ops.toList.length - L0.length) (undef, HP) = L at hchk1
  have hlen : L.length = ops.toList.length := by rw [← hLdef]; simp; omega
  have hvA : ∀ j, j < L0.length → vAt L j = vAt L0 j := fun j hj => by rw [← hLdef]; unfold vAt; rw [List.getElem?_append_left hj]
  have hhA : ∀ j, hAt L HP j = hAt L0 HP j := fun j => by
    rw [← hLdef]
    unfold hAt
    by_cases hj : j < L0.length
    · rw [List.getElem?_append_left hj]
    · rw [List.getElem?_append_right (by omega), List.getElem?_eq_none (l := L0) (by omega), List.getElem?_replicate]
      by_cases hj2 : j - L0.length < ops.toList.length - L0.length
      · rw [if_pos hj2]
      · rw [if_neg hj2]
  have hhP : ∀ j, L0.length ≤ j → hAt L HP j = HP := fun j hj => by
    rw [hhA]; unfold hAt; rw [List.getElem?_eq_none hj]
  have htA : ∀ j, j ≤ L0.length → tmA (permOps ops.toList ord) L j fr.tm = tmA (permOps ops.toList ord) L0 j fr.tm := fun j hj => by rw [← hLdef]; exact tmA_pad _ _ _ _ _ hj
  have hspec : ∀ (i : Nat) (o : Oper), ops.toList[i]? = some o → rk R i < L0.length →
      (wantedB ops.toList (tmA (permOps ops.toList ord) L (rk R i) fr.tm) o = false ∧ vAt L (rk R i) = undef ∧ hAt L HP (rk R i + 1) = hAt L HP (rk R i)) ∨ (wantedB ops.toList (tmA (permOps ops.toList ord) L (rk R i) fr.tm) o = true ∧ StepR E call (evF (tmA (permOps ops.toList ord) L (rk R i) fr.tm) (hAt L HP (rk R i)).g0) (hAt L HP (rk R i)) o (vAt L (rk R i)) (hAt L HP (rk R i + 1))) := by
    intro i o ho hr
    rw [htA _ (by omega), hvA _ hr, hhA, hhA]
    exact hspec0 (rk R i) o hr (perm_get (hs.o1 i (hln ho)) ho)
  have hquiet : ∀ j o, ops.toList[j]? = some o → isHeap E o = false → hAt L HP (rk R j + 1) = hAt L HP (rk R j) := by
    intro j o ho hh
    by_cases hr : rk R j < L0.length
    · have hq : quiet E o.op = true := by unfold isHeap at hh; simpa using hh
      rcases hspec j o ho hr with ⟨_, _, q⟩ | ⟨_, q⟩
      · exact q
      · rcases q with ha | ⟨ha, _⟩ | ⟨f, args, H1, ha, _⟩
        · exact (quiet_same hq ha).1
        · obtain ⟨_, v, hv⟩ := quiet_same hq ha; cases hv
        · obtain ⟨_, v, hv⟩ := quiet_same hq ha; cases hv
    · rw [hhP _ (by omega), hhP _ (by omega)]
  have hcheck : ∀ bI o, ops.toList[bI]? = some o → isHeap E o = true → rk R bI ≤ L0.length → checkAt E ops.toList (masks ops.toList) R L fr.tm tmP L0.length bI (rk R bI) (hAt L HP (rk R bI)) = true := by
    intro bI o ho hho hle
    have hr := hs.rk_lt (hln ho)
    have hm := List.all_eq_true.1 hchk1 bI (heapsBefore_mem.2 ⟨by omega, o, ho, hho⟩)
    have hL : L[rk R bI]? = some (L[rk R bI]'(by omega)) := List.getElem?_eq_getElem _
    rw [hL] at hm
    unfold hAt
    rw [hL]
    exact hm
  have hzu : ∀ i, i < ops.toList.length → rk R i = L0.length → i = z := fun i hi q => hs.rk_inj hi (hln hoz) (by rw [q, hzr])
  -- the schedule
  have hsch : Region.schedule (E.P.follows .mixedOrders) ops t = Region.linearise.go .any ops ops.size t (Array.replicate ops.size false) [] := by
    simp only [Region.schedule, hE.mixed, Bool.true_or, if_true]
    rfl
  rw [hsch]
  have hsd := sched_go hs.bel ops.size t (Array.replicate ops.size false) (by simp) (by simp)
  have main := drawn_main hE hc hs (L := L) (tmF := tmP) (HF := HP) (lim := L0.length) (by omega) hlen (by rw [htA _ (Nat.le_refl _)]; exact htmP) hspec hcheck (fun q => by omega) hquiet
    (fun i y hi hy hyr hlt => by
      rw [hzu y hy hyr]
      have := List.all_eq_true.1 hafter i (List.mem_range.2 hi)
      have hb : Nat.blt L0.length (rk R i) = true := by rw [blt_eq]; simpa using hlt
      rw [hb] at this
      simpa using this)
    (fun y o ho hyr => by
      have e := hzu y (hln ho) hyr
      subst e
      rw [hoz] at ho; injection ho with ho; subst ho
      exact ⟨hzh, by simpa using hzm⟩) (base := base) (w0 := w0) (b := b) (k := k) (cs := cs) (ee := .panic v) (frr := { fr with tm := wipe ops.toList fr.tm }) (Hr := H1) (fun q => by omega) ?hzz
  case hzz =>
    intro γ w a D Hc pend i o l I ho hir hwant hev hcg
    have e := hzu i (hln (hget ho)) hir
    subst e
    have ho' := hget ho
    rw [hoz] at ho'; injection ho' with ho'; subst ho'
    have hHc : HP = Hc := by rw [← I.cur, hhP _ (Nat.le_refl _)]
    subst hHc
    have htm : tmA (permOps ops.toList ord) L (rk R i) fr.tm = tmP := by rw [hir, htA _ (Nat.le_refl _)]; exact htmP.symm
    rw [htm] at hwant hcg
    rw [hwz] at hwant
    have hrel : HRel γ base w0 HP w := I.rel.unpin rfl (fun p hp => List.mem_append_right _ hp)
    have hfw : ∀ {γ1 : Nat → G} {n1 : Nat}, Ext γ HP.next γ1 n1 → FrRelW γ1 n1 { fr with tm := wipe ops.toList fr.tm } a := by
      intro γ1 n1 hx
      refine ⟨fun j hj => ?_, I.dfs.ext hx⟩
      have hj' : isUndef ((wipe ops.toList fr.tm).get undef j) = false := hj
      rcases wipe_get ops.toList fr.tm j with q | ⟨q1, q2⟩
      · rw [q] at hj'; cases hj'
      · show VRel γ1 n1 ((wipe ops.toList fr.tm).get undef j) _
        rw [q1]
        have := I.tms j (fun x hx => by rw [q2] at hx; cases hx)
        unfold gD at this
        rw [q2] at this
        exact VRel.ext hx this
    rcases hpz with hpa | ⟨f, args, H2, hpe, hcl⟩
    · rw [← hcg] at hpa
      obtain ⟨v', h1, h2, h3⟩ := aop_ok (w := w) hE hrel hev hpa
      subst h3
      have hst := op_panic (P := E.P) (b := b) (k := k) (cs := cs) (rest := l) ho hwant (aop_semAt hpa (fun _ _ _ q => by cases q) _ _) h1
      exact ⟨γ, a, w, cs, Ext.refl _ _, hrel, hfw (Ext.refl _ _), I.rc.1, I.rc.2, Chg.refl _ _, _, v', h2, .one hst⟩
    · rw [← hcg] at hpe
      have hA := aop_ok (w := w) hE hrel hev hpe
      have h3 := enter_same hA
      subst h3
      obtain ⟨M, γ1, w1, hi1, g1, g2, v', g5, g4⟩ := hc f args _ _ H1 hcl γ base w0 w _ hrel hA (b.atR a (.inRegion ops (i :: l) :: k)) cs
      rw [Frame.raise_atR] at g4
      exact ⟨γ1, a, w1, cs, g1, g2, hfw g1, (I.rc.ext g1).1, (I.rc.ext g1).2, Chg.refl _ _, _, v', g5, (Steps.one (op_into ho hwant (aop_semAt hpe (fun _ _ _ q => by cases q) _ _) hi1)).trans g4⟩
  have hDf : ∀ j, (Array.replicate ops.size false).getD j false = false := by
    intro j
    rw [Array.getD_eq_getD_getElem?, Array.getElem?_replicate]
    split <;> rfl
  have hg0 : ∀ t, gD ops.toList (fun j => (Array.replicate ops.size false).getD j false) (fun j => vAt L (rk R j)) fr.tm t = fr.tm.get undef t := by
    intro t
    unfold gD
    cases writer ops.toList t with
    | none => rfl
    | some j => simp only [hDf]; rfl
  have inv : Inv0 E ops.toList R L HP fr.tm fr.nt base w0 fr.df b.kind cs fr.pk fr.rnd b.roundOf γ w a (fun j => (Array.replicate ops.size false).getD j false) 0 H [] := by
    refine ⟨(by rw [hhA]; exact hH0), Nat.zero_le _, fun i o _ _ q => (by omega), fun i o _ _ _ q => (by rw [hDf] at q; cases q), fun x hx => (by cases hx), fun x hx => (by cases hx), fun x hx => (by cases hx), fun i o _ q => (by rw [hDf] at q; cases q), hR, hF.tm.1, fun t γ' n' e _ => by rw [hg0]; exact (hF.tm.2 t).ext e, fun t => by rw [hg0]; exact (hF.tm.2 t).cells.1, hF.df, ⟨hP, hQ⟩⟩
  obtain ⟨γ2, b2, H2, p2, m1, m2, m3⟩ := Inv0.advance hs hquiet ops.toList.length 0 γ H [] (by omega) inv
  exact (main _ _ hsd γ2 w a b2 H2 p2 m2 m3 (fun y _ _ => hDf y)).more m1 (Chg.refl _ _)
theorem drawnO_ok (hE : E.OK) (hc : CallOK E call) (ops : Array Oper) (ord R : List Nat) (fr : Fr) (H : AH) (e : Ex) (fr' : Fr) (H' : AH) (hs : Stat E ops.toList ord R fr.nt) (h : drawnO E call ops.toList (masks ops.toList) ord R fr H = some (e, fr', H'))
    (γ : Nat → G) (base : Bs) (w0 w : World) (b : Frame) (a : Act) (k : List Item) (cs : List Frame) (t : Nat) (hR : HRel γ base w0 H w) (hF : FrRel γ H.next fr a) (hP : Rc γ H.next b.kind cs fr.pk) (hQ : RO γ H.next fr.rnd b.roundOf) :
      Runs E.P (lone (b.atR a (.inRegion ops (Region.schedule (E.P.follows .mixedOrders) ops t) :: k)) cs w) b k cs γ base w0 H.next fr.rc e fr' H' := by
  unfold drawnO at h
  split at h
  case h_2 => exact drawnP_ok hE hc ops ord R fr H e fr' H' hs h γ base w0 w b a k cs t hR hF hP hQ
  rename_i L tmF HF hp
  split at h
  case h_2 => cases h
  rename_i hchk
  injection h with h; injection h with e1 e2; injection e2 with e2 e3; subst e1 e2 e3
  rw [Bool.and_eq_true] at hchk
  obtain ⟨hchk1, hchk2⟩ := hchk
  obtain ⟨hlen, htmF, hH0, hspec0⟩ := pass1_spec _ _ _ _ _ _ hp
  have hnol : ops.toList.length = ops.size := Array.length_toList
  have hpl : (permOps ops.toList ord).length = ops.toList.length := by unfold permOps; rw [List.length_map, hs.ol]
  rw [hpl] at hlen htmF
  have hget : ∀ {i : Nat} {o : Oper}, ops[i]? = some o → ops.toList[i]? = some o := fun h => by rw [Array.getElem?_toList]; exact h
  have hln : ∀ {i : Nat} {o : Oper}, ops.toList[i]? = some o → i < ops.toList.length := fun h => (List.getElem?_eq_some_iff.1 h).1
  have hspec : ∀ (i : Nat) (o : Oper), ops.toList[i]? = some o →
      (wantedB ops.toList (tmA (permOps ops.toList ord) L (rk R i) fr.tm) o = false ∧ vAt L (rk R i) = undef ∧ hAt L HF (rk R i + 1) = hAt L HF (rk R i)) ∨ (wantedB ops.toList (tmA (permOps ops.toList ord) L (rk R i) fr.tm) o = true ∧ StepR E call (evF (tmA (permOps ops.toList ord) L (rk R i) fr.tm) (hAt L HF (rk R i)).g0) (hAt L HF (rk R i)) o (vAt L (rk R i)) (hAt L HF (rk R i + 1))) :=
    fun i o ho => hspec0 (rk R i) o (perm_get (hs.o1 i (hln ho)) ho)
  -- the checks, at each stage
  have hcheck : ∀ bI o, ops.toList[bI]? = some o → isHeap E o = true → checkAt E ops.toList (masks ops.toList) R L fr.tm tmF ops.toList.length bI (rk R bI) (hAt L HF (rk R bI)) = true := by
    intro bI o ho hho
    have hr := hs.rk_lt (hln ho)
    have hm := List.all_eq_true.1 hchk1 bI (heapsBefore_mem.2 ⟨hr, o, ho, hho⟩)
    have hL : L[rk R bI]? = some (L[rk R bI]'(by omega)) := List.getElem?_eq_getElem _
    rw [hL] at hm
    unfold hAt
    rw [hL]
    exact hm
  have hcheckE : checkAt E ops.toList (masks ops.toList) R L fr.tm tmF ops.toList.length ops.toList.length ops.toList.length (hAt L HF ops.toList.length) = true := by
    unfold hAt
    rw [List.getElem?_eq_none (by omega)]
    exact hchk2
  have hquiet : ∀ j o, ops.toList[j]? = some o → isHeap E o = false → hAt L HF (rk R j + 1) = hAt L HF (rk R j) := by
    intro j o ho hh
    have hq : quiet E o.op = true := by unfold isHeap at hh; simpa using hh
    rcases hspec j o ho with ⟨_, _, q⟩ | ⟨_, q⟩
    · exact q
    · rcases q with ha | ⟨ha, _⟩ | ⟨f, args, H1, ha, _⟩
      · exact (quiet_same hq ha).1
      · obtain ⟨_, v, hv⟩ := quiet_same hq ha; cases hv
      · obtain ⟨_, v, hv⟩ := quiet_same hq ha; cases hv
  -- the schedule
  have hsch : Region.schedule (E.P.follows .mixedOrders) ops t = Region.linearise.go .any ops ops.size t (Array.replicate ops.size false) [] := by
    simp only [Region.schedule, hE.mixed, Bool.true_or, if_true]
    rfl
  rw [hsch]
  have hsd := sched_go hs.bel ops.size t (Array.replicate ops.size false) (by simp) (by simp)
  have main := drawn_main hE hc hs (L := L) (tmF := tmF) (HF := HF) (lim := ops.toList.length) (Nat.le_refl _) hlen htmF (fun i o ho _ => hspec i o ho) (fun bI o ho hh _ => hcheck bI o ho hh) (fun _ => hcheckE) hquiet
    (fun i z hi _ _ h => by have := hs.rk_lt hi; omega) (fun z o ho h => by have := hs.rk_lt (hln ho); omega) (base := base) (w0 := w0) (b := b) (k := k) (cs := cs) (ee := .normal) (frr := { fr with tm := tmF }) (Hr := HF) ?hnil
    (fun γ w a D Hc pend i o l I ho h => by have := hs.rk_lt (hln (hget ho)); omega)
  case hnil =>
    intro _ γ w a D bI Hc pend I hat hall
    have hb : bI = ops.size := by
      false_or_by_contra
      have hle := I.le
      obtain ⟨z, o, ho, hh, hD, _⟩ := hat (by omega)
      rw [hall z (by have := hln ho; omega)] at hD
      cases hD
    have hpe : pend = [] := by
      cases pend with
      | nil => rfl
      | cons x r =>
        obtain ⟨q1, _, o, _, q2, _⟩ := I.pe x (by simp)
        have := hs.rk_lt (hln q2)
        omega
    subst hpe
    have hHF : HF = Hc := by rw [← I.cur]; unfold hAt; rw [List.getElem?_eq_none (by omega)]
    subst hHF
    have hrel : HRel γ base w0 HF w := I.rel
    refine ⟨γ, a, w, cs, Ext.refl _ _, hrel, ⟨⟨I.sz, fun i => ?_⟩, I.dfs⟩, I.rc.1, I.rc.2, Chg.refl _ _, .one stepR_region_end⟩
    show VRel γ HF.next (tmF.get undef i) _
    rw [htmF, tmA_get hs hlen fr.tm _ (Nat.le_refl _) i]
    have : gD ops.toList (fun j => decide (rk R j < ops.toList.length)) (fun j => vAt L (rk R j)) fr.tm i = gD ops.toList D (fun j => vAt L (rk R j)) fr.tm i := by
      unfold gD
      cases hw : writer ops.toList i with
      | none => rfl
      | some j =>
        obtain ⟨o, g1, _⟩ := writer_some hw
        have hj := hln g1
        have hj2 := hs.rk_lt hj
        simp only [hj2, decide_true, if_true, hall j (by omega)]
    rw [this]; exact I.tms i (fun j _ _ x hx => by cases hx)
  have hDf : ∀ j, (Array.replicate ops.size false).getD j false = false := by
    intro j
    rw [Array.getD_eq_getD_getElem?, Array.getElem?_replicate]
    split <;> rfl
  have hg0 : ∀ t, gD ops.toList (fun j => (Array.replicate ops.size false).getD j false) (fun j => vAt L (rk R j)) fr.tm t = fr.tm.get undef t := by
    intro t
    unfold gD
    cases writer ops.toList t with
    | none => rfl
    | some j => simp only [hDf]; rfl
  have inv : Inv0 E ops.toList R L HF fr.tm fr.nt base w0 fr.df b.kind cs fr.pk fr.rnd b.roundOf γ w a (fun j => (Array.replicate ops.size false).getD j false) 0 H [] := by
    refine ⟨hH0, Nat.zero_le _, fun i o _ _ q => (by omega), fun i o _ _ _ q => (by rw [hDf] at q; cases q), fun x hx => (by cases hx), fun x hx => (by cases hx), fun x hx => (by cases hx), fun i o _ q => (by rw [hDf] at q; cases q), hR, hF.tm.1, fun t γ' n' e _ => by rw [hg0]; exact (hF.tm.2 t).ext e, fun t => by rw [hg0]; exact (hF.tm.2 t).cells.1, hF.df, ⟨hP, hQ⟩⟩
  obtain ⟨γ2, b2, H2, p2, m1, m2, m3⟩ := Inv0.advance hs hquiet ops.toList.length 0 γ H [] (by omega) inv
  exact (main _ _ hsd γ2 w a b2 H2 p2 m2 m3 (fun z hz h => by have := hs.rk_lt hz; omega)).more m1 (Chg.refl _ _)
theorem drawn_ok (hE : E.OK) : DrawnOK E (drawnE E) := by
  intro call hc ops fr H e fr' H' h γ base w0 w b a k cs t hR hF hP hQ
  unfold drawnE at h
  split at h
  case h_2 => cases h
  rename_i hlt
  split at h
  · rename_i hst
    exact drawnO_ok hE hc ops _ _ fr H e fr' H' (stat_of hst hlt) h γ base w0 w b a k cs t hR hF hP hQ
  · split at h
    · rename_i hst
      exact drawnO_ok hE hc ops _ _ fr H e fr' H' (stat_of hst hlt) h γ base w0 w b a k cs t hR hF hP hQ
    · cases h
end
end Go.Proofs.YtohgenhjdgdkgaaGreatDoor.Sh
