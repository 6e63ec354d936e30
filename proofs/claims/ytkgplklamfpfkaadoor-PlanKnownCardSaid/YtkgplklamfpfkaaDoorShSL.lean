import Derived.Test.YtkgplklamfpfkaaDoorShSK
namespace Go.Proofs.YtkgplklamfpfkaaDoor.Sh
open Go.RowKit
set_option linter.unusedVariables false
set_option linter.unusedSimpArgs false

theorem heapsBefore_mem {ops : List Oper} {i j : Nat} : j ∈ heapsBefore ops i ↔ j < i ∧ ∃ o, ops[j]? = some o ∧ isHeap o = true := by
  unfold heapsBefore
  rw [List.mem_filter, List.mem_range]
  cases h : ops[j]? with
  | none => simp
  | some o => simp
theorem masks_lt {ops : List Oper} (hb : below ops = true) {i j : Nat} {o : Oper} (ho : ops[i]? = some o) (h : bitAt ((masks ops).getD i 0) j = true) : j < i :=
  masks_closed (D := fun x => x < i) (fun x o' hx hxi e he => by have := below_spec hb hx e he; omega) i o ho (fun e he => below_spec hb ho e he) j h
theorem Act.put_defers' (a : Act) (d : Option Tmp) (v : Value) : (a.put d v).defers = a.defers := by cases d <;> rfl
theorem put_size (a : Act) (d : Option Tmp) (v : Value) : (a.put d v).tmps.size = a.tmps.size := by cases d <;> simp [Act.put]
theorem put_at {a : Act} {nt : Nat} (hsz : a.tmps.size = nt) {d : Tmp} (hd : d < nt) (v : Value) : (a.put (some d) v).tmps.getD d undef = v := by
  show (a.tmps.setIfInBounds d v).getD d undef = v
  rw [Array.getD_eq_getD_getElem?, Array.getElem?_setIfInBounds, if_pos rfl, if_pos (by rw [hsz]; exact hd)]
  rfl
theorem put_ne {a : Act} {od : Option Tmp} {t : Nat} (h : od ≠ some t) (v : Value) : (a.put od v).tmps.getD t undef = a.tmps.getD t undef := by
  cases od with
  | none => rfl
  | some d =>
    have e : t ≠ d := fun q => h (by rw [q])
    show (a.tmps.setIfInBounds d v).getD t undef = _
    rw [Array.getD_eq_getD_getElem?, Array.getD_eq_getD_getElem?, Array.getElem?_setIfInBounds, if_neg (Ne.symm e)]
theorem gD_ne {ops : List Oper} {D : Nat → Bool} {vals : Nat → Value} {tm : T Value} {i : Nat} {o : Oper} (ho : ops[i]? = some o) {t : Nat} (ht : o.dst ≠ some t) : gD ops (fun j => if j = i then true else D j) vals tm t = gD ops D vals tm t := by
  unfold gD
  cases hw : writer ops t with
  | none => rfl
  | some j =>
    obtain ⟨o', h1, h2⟩ := writer_some hw
    have : j ≠ i := fun q => by subst q; rw [ho] at h1; injection h1 with h1; rw [h1] at ht; exact ht h2
    simp only [if_neg this]
theorem gD_at {ops : List Oper} {nt : Nat} (hs : Stat ops nt) {D : Nat → Bool} {vals : Nat → Value} {tm : T Value} {i : Nat} {o : Oper} (ho : ops[i]? = some o) {t : Nat} (ht : o.dst = some t) : gD ops (fun j => if j = i then true else D j) vals tm t = vals i := by
  unfold gD
  rw [hs.wr i o t ho ht]
  simp
/-- Where a drawn region stands: what is done, what was made early. -/
structure Inv0 (ops : List Oper) (L : List (Value × AH)) (HF : AH) (tm : T Value) (nt : Nat) (base : Bs) (w0 : World) (df : List ADef) (kd : CallKind) (cs : List Frame) (pk : Option Value)
    (γ : Nat → G) (w : World) (a : Act) (D : Nat → Bool) (p : Nat) (Hc : AH) (pend : List (Nat × Nat × Obj)) : Prop where
  cur : hAt L HF p = Hc
  le : p ≤ ops.length
  lo : ∀ i o, ops[i]? = some o → isHeap o = true → i < p → D i = true
  hi : ∀ i o, ops[i]? = some o → isHeap o = true → p ≤ i → D i = true → (hAt L HF (i + 1) = hAt L HF i ∧ ∀ x ∈ pend, x.1 ≠ i) ∨ ∃ x ∈ pend, x.1 = i
  pe : ∀ x ∈ pend, p ≤ x.1 ∧ D x.1 = true ∧ ∃ o r, ops[x.1]? = some o ∧ isHeap o = true ∧ vAt L x.1 = Rec.mk r (hAt L HF x.1).next ∧ hAt L HF (x.1 + 1) = r.heap (hAt L HF x.1) ∧ RecRel γ Hc.next r x.2.2 ∧ ∀ d, o.dst = some d → a.tmps.getD d undef = r.mk x.2.1
  inj : ∀ x ∈ pend, ∀ y ∈ pend, x.2.1 = y.2.1 → x.1 = y.1
  out : ∀ x ∈ pend, ∀ q ∈ base.pin, q.1 ≠ x.2.1
  cl : ∀ i o, ops[i]? = some o → D i = true → ∀ e ∈ edgesOf o, D e = true
  rel : HRel γ ⟨base.n, pend.map (·.2) ++ base.pin⟩ w0 Hc w
  sz : a.tmps.size = nt
  tms : ∀ t, (∀ j, writer ops t = some j → ∀ x ∈ pend, x.1 ≠ j) → VRel γ Hc.next (gD ops D (vAt L) tm t) (a.tmps.getD t undef)
  dfs : DsRel γ Hc.next df a.defers
  rc : Rc γ Hc.next kd cs pk
/-- What was made early is taken in, up to the first operation on memory that is not done. -/
theorem Inv0.advance {ops : List Oper} {L : List (Value × AH)} {HF : AH} {tm : T Value} {nt : Nat} {base : Bs} {w0 : World} {df : List ADef} {kd : CallKind} {cs : List Frame} {pk : Option Value}
    {w : World} {a : Act} {D : Nat → Bool} (hq : ∀ j o, ops[j]? = some o → isHeap o = false → hAt L HF (j + 1) = hAt L HF j) : ∀ (m p : Nat) (γ : Nat → G) (Hc : AH) (pend : List (Nat × Nat × Obj)), p + m = ops.length → Inv0 ops L HF tm nt base w0 df kd cs pk γ w a D p Hc pend →
    ∃ γ' b' Hc' pend', Ext γ Hc.next γ' Hc'.next ∧ Inv0 ops L HF tm nt base w0 df kd cs pk γ' w a D b' Hc' pend' ∧ (b' < ops.length → ∃ o, ops[b']? = some o ∧ isHeap o = true ∧ D b' = false) := by
  intro m
  induction m with
  | zero => intro p γ Hc pend hm h; exact ⟨γ, p, Hc, pend, Ext.refl _ _, h, fun q => by omega⟩
  | succ m ih =>
    intro p γ Hc pend hm h
    have ho : ops[p]? = some (ops[p]'(by omega)) := List.getElem?_eq_getElem _
    have pass : hAt L HF (p + 1) = Hc → (∀ x ∈ pend, x.1 ≠ p) → (isHeap (ops[p]'(by omega)) = true → D p = true) → Inv0 ops L HF tm nt base w0 df kd cs pk γ w a D (p + 1) Hc pend := by
      intro e1 e2 e3
      refine ⟨e1, by omega, fun i o hi hh hlt => ?_, fun i o hi hh hle => h.hi i o hi hh (by omega), fun x hx => ?_, h.inj, h.out, h.cl, h.rel, h.sz, h.tms, h.dfs, h.rc⟩
      · by_cases e : i = p
        · subst e; rw [ho] at hi; injection hi with hi; subst hi; exact e3 hh
        · exact h.lo i o hi hh (by omega)
      · obtain ⟨q1, q2⟩ := h.pe x hx
        have := e2 x hx
        exact ⟨by omega, q2⟩
    cases hh : isHeap (ops[p]'(by omega)) with
    | false =>
      refine ih (p + 1) γ Hc pend (by omega) (pass ?_ ?_ (fun q => by rw [hh] at q; cases q))
      · rw [hq p _ ho hh]; exact h.cur
      · intro x hx e
        obtain ⟨_, _, o, r, q1, q2, _⟩ := h.pe x hx
        rw [e, ho] at q1
        injection q1 with q1
        rw [q1, q2] at hh
        cases hh
    | true =>
      cases hD : D p with
      | false => exact ⟨γ, p, Hc, pend, Ext.refl _ _, h, fun _ => ⟨_, ho, hh, hD⟩⟩
      | true =>
        rcases h.hi p _ ho hh (Nat.le_refl _) hD with ⟨q1, q2⟩ | ⟨x, hx, rfl⟩
        · exact ih (p + 1) γ Hc pend (by omega) (pass (by rw [q1]; exact h.cur) q2 (fun _ => hD))
        · obtain ⟨_, _, o, r, g1, g2, g3, g4, g5, g6⟩ := h.pe x hx
          rw [h.cur] at g3 g4
          obtain ⟨γ', k1, k2, k3⟩ := h.rel.absorb (r := r) (ob := x.2.2) (c := x.2.1) (List.mem_append_left _ (List.mem_map.2 ⟨x, hx, rfl⟩)) g5
            (b2 := ⟨base.n, (pend.filter (fun y => decide (y.1 ≠ x.1))).map (·.2) ++ base.pin⟩) rfl (by
              intro q hq
              rcases List.mem_append.1 hq with hq | hq
              · obtain ⟨y, hy, rfl⟩ := List.mem_map.1 hq
                obtain ⟨hy1, hy2⟩ := List.mem_filter.1 hy
                refine ⟨List.mem_append_left _ (List.mem_map.2 ⟨y, hy1, rfl⟩), fun e => ?_⟩
                exact (of_decide_eq_true hy2) (h.inj y hy1 x hx e)
              · exact ⟨List.mem_append_right _ hq, h.out x hx q hq⟩)
          have hmem : ∀ y, y ∈ pend.filter (fun y => decide (y.1 ≠ x.1)) ↔ y ∈ pend ∧ y.1 ≠ x.1 := fun y => by rw [List.mem_filter]; simp
          have inv : Inv0 ops L HF tm nt base w0 df kd cs pk γ' w a D (x.1 + 1) (r.heap Hc) (pend.filter (fun y => decide (y.1 ≠ x.1))) := by
            refine ⟨g4, by omega, fun i o' hi hhi hlt => ?_, fun i o' hi hhi hle hDi => ?_, fun y hy => ?_, fun y hy z hz => h.inj y ((hmem y).1 hy).1 z ((hmem z).1 hz).1, fun y hy => h.out y ((hmem y).1 hy).1, h.cl, k2, h.sz, fun t ht => ?_, h.dfs.ext k1, h.rc.ext k1⟩
            · by_cases e : i = x.1
              · subst e; exact hD
              · exact h.lo i o' hi hhi (by omega)
            · rcases h.hi i o' hi hhi (by omega) hDi with ⟨u1, u2⟩ | ⟨y, hy, rfl⟩
              · exact .inl ⟨u1, fun y hy => u2 y ((hmem y).1 hy).1⟩
              · exact .inr ⟨y, (hmem y).2 ⟨hy, by omega⟩, rfl⟩
            · obtain ⟨hy1, hy2⟩ := (hmem y).1 hy
              obtain ⟨u1, u2, o', r', u3, u4, u5, u6, u7, u8⟩ := h.pe y hy1
              exact ⟨by omega, u2, o', r', u3, u4, u5, u6, u7.ext k1, u8⟩
            · by_cases hw : writer ops t = some x.1
              · obtain ⟨o', h1, h2⟩ := writer_some hw
                rw [g1] at h1; injection h1 with h1; subst h1
                have : gD ops D (vAt L) tm t = r.mk Hc.next := by unfold gD; rw [hw]; simp only [hD, if_true]; exact g3
                rw [this, g6 t h2]
                exact k3
              · refine (h.tms t fun j hj y hy e => ?_).ext k1
                by_cases e2 : y.1 = x.1
                · exact hw (by rw [hj, ← e, e2])
                · exact ht j hj y ((hmem y).2 ⟨hy, e2⟩) e
          obtain ⟨γ2, b2, H2, p2, m1, m2, m3⟩ := ih (x.1 + 1) γ' (r.heap Hc) _ (by omega) inv
          exact ⟨γ2, b2, H2, p2, k1.trans m1, m2, m3⟩
section
variable {E : FEnv} {call : CallT}
/-- What the checks give. -/
theorem check_spec {ops : List Oper} {L : List (Value × AH)} {tmF : T Value} {b : Nat} {Hs : AH} (h : checkAt E ops (masks ops) L tmF b Hs = true) {i : Nat} {o : Oper} (ho : ops[i]? = some o) (hq : quiet o.op = true) (hw : wantedB ops tmF o = true) (h1 : bitAt ((masks ops).getD i 0) b = false) (h2 : ∀ j ∈ heapsBefore ops b, bitAt ((masks ops).getD j 0) i = false) :
    aop E (evF tmF Hs.g0) o.op Hs = some (.val (vAt L i), Hs) := by
  have hi := (List.getElem?_eq_some_iff.1 ho).1
  have := List.all_eq_true.1 h i (List.mem_range.2 hi)
  rw [ho] at this
  have hc : (quiet o.op && wantedB ops tmF o && !(bitAt ((masks ops).getD i 0) b) && (heapsBefore ops b).all fun h => !(bitAt ((masks ops).getD h 0) i)) = true := by
    rw [hq, hw, h1]
    simp only [Bool.not_false, Bool.and_self, Bool.true_and]
    refine List.all_eq_true.2 fun j hj => ?_
    rw [h2 j hj]; rfl
  simp only [hc] at this
  split at this
  · rename_i v H1 u Hu ha hL
    have hv := vEq_eq _ _ _ this
    obtain ⟨e1, _⟩ := quiet_same hq ha
    subst e1
    have : vAt L i = u := by unfold vAt; rw [hL]
    rw [this, ← hv]
    exact ha
  · cases this
theorem drawn_ok (hE : E.OK) : DrawnOK E (drawnE E) := by
  intro call hc ops fr H e fr' H' h γ base w0 w b a k cs t hR hF hP
  unfold drawnE at h
  split at h
  case h_2 => cases h
  rename_i hstat
  have hs := stat_of hstat
  split at h
  case h_2 => cases h
  rename_i L tmF HF hp
  split at h
  case h_2 => cases h
  rename_i hchk
  injection h with h; injection h with e1 e2; injection e2 with e2 e3; subst e1 e2 e3
  rw [Bool.and_eq_true] at hchk
  obtain ⟨hchk1, hchk2⟩ := hchk
  obtain ⟨hlen, htmF, hH0, hspec⟩ := pass1_spec _ _ _ _ _ _ hp
  have hnol : ops.toList.length = ops.size := Array.length_toList
  have hget : ∀ {i : Nat} {o : Oper}, ops[i]? = some o → ops.toList[i]? = some o := fun h => by rw [Array.getElem?_toList]; exact h
  -- the checks, at each stage
  have hcheck : ∀ bI, bI ≤ ops.size → (bI < ops.size → ∃ o, ops.toList[bI]? = some o ∧ isHeap o = true) → checkAt E ops.toList (masks ops.toList) L tmF bI (hAt L HF bI) = true := by
    intro bI hb hh
    by_cases q : bI < ops.size
    · obtain ⟨o, ho, hho⟩ := hh q
      have hm := List.all_eq_true.1 hchk1 bI (heapsBefore_mem.2 ⟨by rw [hnol]; exact q, o, ho, hho⟩)
      have hL : L[bI]? = some (L[bI]'(by omega)) := List.getElem?_eq_getElem _
      rw [hL] at hm
      unfold hAt
      rw [hL]
      exact hm
    · have : bI = ops.toList.length := by omega
      subst this
      unfold hAt
      rw [List.getElem?_eq_none (by omega)]
      exact hchk2
  have hquiet : ∀ j o, ops.toList[j]? = some o → isHeap o = false → hAt L HF (j + 1) = hAt L HF j := by
    intro j o ho hh
    have hq : quiet o.op = true := by unfold isHeap at hh; simpa using hh
    rcases hspec j o ho with ⟨_, _, q⟩ | ⟨_, q⟩
    · exact q
    · rcases q with ha | ⟨ha, _⟩ | ⟨f, args, H1, ha, _⟩
      · exact (quiet_same hq ha).1
      · obtain ⟨_, v, hv⟩ := quiet_same hq ha; cases hv
      · obtain ⟨_, v, hv⟩ := quiet_same hq ha; cases hv
  -- the schedule
  have hsch : Region.schedule (E.P.follows .mixedOrders) ops t = Region.linearise.go .any ops ops.size t (Array.replicate ops.size false) [] := by
    simp only [Region.schedule, hE.mixed, Bool.true_or, if_true]
    rfl
  rw [hsch]
  have hsd := sched_go hs.bel ops.size t (Array.replicate ops.size false) (by simp) (by simp)
  have main : ∀ (D : Nat → Bool) (l : List Nat), Sched ops D l → ∀ (γ : Nat → G) (w : World) (a : Act) (bI : Nat) (Hc : AH) (pend : List (Nat × Nat × Obj)), Inv0 ops.toList L HF fr.tm fr.nt base w0 fr.df b.kind cs fr.pk γ w a D bI Hc pend → (bI < ops.toList.length → ∃ o, ops.toList[bI]? = some o ∧ isHeap o = true ∧ D bI = false) →
      Runs E.P (lone (b.at a (.inRegion ops l :: k)) cs w) b k cs γ base w0 Hc.next fr.rc .normal { fr with tm := tmF } HF := by
    intro D l hsd
    induction hsd with
    | nil D hall =>
      intro γ w a bI Hc pend I hat
      have hb : bI = ops.size := by
        false_or_by_contra
        have hle := I.le
        obtain ⟨o, ho, hh, hD⟩ := hat (by omega)
        rw [hall bI (by omega)] at hD
        cases hD
      have hpe : pend = [] := by
        cases pend with
        | nil => rfl
        | cons x r =>
          obtain ⟨q1, _, o, _, q2, _⟩ := I.pe x (by simp)
          have := (List.getElem?_eq_some_iff.1 q2).1
          omega
      subst hpe
      have hHF : HF = Hc := by rw [← I.cur]; unfold hAt; rw [List.getElem?_eq_none (by omega)]
      subst hHF
      have hrel : HRel γ base w0 HF w := I.rel
      refine ⟨γ, a, w, cs, Ext.refl _ _, hrel, ⟨⟨I.sz, fun i => ?_⟩, I.dfs⟩, I.rc, Chg.refl _ _, .one step_region_end⟩
      show VRel γ HF.next (tmF.get undef i) _
      rw [htmF, tmA_get hs hlen fr.tm _ (Nat.le_refl _) i]
      have : gD ops.toList (fun j => decide (j < ops.toList.length)) (vAt L) fr.tm i = gD ops.toList D (vAt L) fr.tm i := by
        unfold gD
        cases hw : writer ops.toList i with
        | none => rfl
        | some j =>
          obtain ⟨o, g1, _⟩ := writer_some hw
          have hj := (List.getElem?_eq_some_iff.1 g1).1
          simp only [hj, decide_true, if_true, hall j (by omega)]
      rw [this]; exact I.tms i (fun j _ x hx => by cases hx)
    | cons D i l o ho hDi he hrest ih =>
      intro γ w a bI Hc pend I hat
      have hol := hget ho
      have hin : i < ops.size := (Array.getElem?_eq_some_iff.1 ho).1
      have hPi : ∀ j, bitAt ((masks ops.toList).getD i 0) j = true → D j = true := masks_closed (D := fun x => D x = true) (fun x o' hx hxd e hee => I.cl x o' hx hxd e hee) i o hol he
      have hPd : ∀ j o', ops.toList[j]? = some o' → D j = true → ∀ h, bitAt ((masks ops.toList).getD j 0) h = true → D h = true := fun j o' hj hd => masks_closed (D := fun x => D x = true) (fun x o' hx hxd e hee => I.cl x o' hx hxd e hee) j o' hj (I.cl j o' hj hd)
      -- what was made early is not looked at
      have hnop : ∀ j, bitAt ((masks ops.toList).getD i 0) j = true → ∀ x ∈ pend, x.1 ≠ j := by
        intro j hb x hx e
        obtain ⟨q1, q2, oj, _, q3, q4, _⟩ := I.pe x hx
        rw [e] at q1 q2 q3
        have hjl := (List.getElem?_eq_some_iff.1 q3).1
        obtain ⟨ob, hob, hhb, hDb⟩ := hat (by omega)
        by_cases e2 : j = bI
        · rw [e2, hDb] at q2; cases q2
        · have hm : bI ∈ heapsBefore ops.toList j := heapsBefore_mem.2 ⟨by omega, ob, hob, hhb⟩
          rcases hs.chain j oj q3 q4 with q | ⟨_, _, q⟩
          · rw [hPd j oj q3 q2 bI (q bI hm)] at hDb; cases hDb
          · rw [hPi bI (q i (by omega) hb bI hm)] at hDb; cases hDb
      have hlook : ∀ t ∈ looks ops.toList o, (gD ops.toList D (vAt L) fr.tm t = (tmA ops.toList L i fr.tm).get undef t ∧ gD ops.toList D (vAt L) fr.tm t = tmF.get undef t) ∧ ∀ j, writer ops.toList t = some j → ∀ x ∈ pend, x.1 ≠ j := by
        intro t ht
        refine ⟨?_, fun j hw => hnop j (hs.look i o t j hol ht hw)⟩
        rw [htmF, tmA_get hs hlen fr.tm _ (Nat.le_refl _) t, tmA_get hs hlen fr.tm i (by omega) t]
        unfold gD
        cases hw : writer ops.toList t with
        | none => exact ⟨rfl, rfl⟩
        | some j =>
          have hb := hs.look i o t j hol ht hw
          have hlt := masks_lt hs.bel hol hb
          simp only [hPi j hb, if_true, hlt, decide_true, show j < ops.toList.length by omega]
          first | exact ⟨rfl, rfl⟩ | exact ⟨trivial, trivial⟩ | simp
      have hokv : ∀ t, (looks ops.toList o).contains t = true → VRel γ Hc.next (gD ops.toList D (vAt L) fr.tm t) (a.tmps.getD t undef) := fun t ht => I.tms t (hlook t (by simpa using ht)).2
      have hwant : Region.wanted o (yielded ops a.tmps) = wantedB ops.toList (tmA ops.toList L i fr.tm) o := by
        rw [wantedG_ok o (fun t ht => I.tms t (hlook t ht).2), wantedB_G]
        exact wantedG_congr fun t ht => (hlook t ht).1.1
      have hwantF : wantedB ops.toList (tmA ops.toList L i fr.tm) o = wantedB ops.toList tmF o := by
        rw [wantedB_G, wantedB_G]
        exact wantedG_congr fun t ht => (hlook t ht).1.1.symm.trans (hlook t ht).1.2
      -- the marks behind this operation
      have hcl : ∀ j o', ops.toList[j]? = some o' → (if j = i then true else D j) = true → ∀ e ∈ edgesOf o', (if e = i then true else D e) = true := by
        intro j o' hj hd e hee
        have : D e = true := by
          by_cases q : j = i
          · subst q; rw [hol] at hj; injection hj with hj; subst hj; exact he e hee
          · rw [if_neg q] at hd; exact I.cl j o' hj hd e hee
        rw [this]; split <;> rfl
      have hDup : ∀ j, D j = true → (if j = i then true else D j) = true := by
        intro j hj; rw [hj]; split <;> rfl
      have hnp : ∀ x ∈ pend, x.1 ≠ i := fun x hx e => by
        have := (I.pe x hx).2.1
        rw [e, hDi] at this; cases this
      -- a slot of something made early is not this operation's
      have hdn : ∀ x ∈ pend, ∀ ox d, ops.toList[x.1]? = some ox → ox.dst = some d → o.dst ≠ some d := by
        intro x hx ox d hox hd q
        have w1 := hs.wr x.1 ox d hox hd
        have w2 := hs.wr i o d hol q
        rw [w1] at w2
        injection w2 with w2
        exact hnp x hx w2
      -- where the stage is
      have hstage : isHeap o = true → i = bI ∨ (bI < i ∧ movable o.op = true ∧ noGlob (opsOf o.op) = true) := by
        intro hh
        have hge : ¬ i < bI := fun q => by rw [I.lo i o hol hh q] at hDi; cases hDi
        by_cases e : i = bI
        · exact .inl e
        · right
          obtain ⟨ob, hob, hhb, hDb⟩ := hat (by omega)
          rcases hs.chain i o hol hh with q | ⟨q1, q2, _⟩
          · have := hPi bI (q bI (heapsBefore_mem.2 ⟨by omega, ob, hob, hhb⟩))
            rw [hDb] at this; cases this
          · exact ⟨by omega, q1, q2⟩
      -- the slots behind it
      have htms : ∀ (γ1 : Nat → G) (n1 : Nat) (v' : Value) (pend2 : List (Nat × Nat × Obj)), Ext γ Hc.next γ1 n1 → (∀ x ∈ pend, x ∈ pend2) → ((∀ x ∈ pend2, x.1 ≠ i) → VRel γ1 n1 (vAt L i) v') → ∀ t, (∀ j, writer ops.toList t = some j → ∀ x ∈ pend2, x.1 ≠ j) → VRel γ1 n1 (gD ops.toList (fun j => if j = i then true else D j) (vAt L) fr.tm t) ((a.put o.dst v').tmps.getD t undef) := by
        intro γ1 n1 v' pend2 g1 hsub g3 t ht
        by_cases hd : o.dst = some t
        · rw [gD_at hs hol hd, hd, put_at I.sz (hs.lt i o t hol hd)]
          exact g3 (ht i (hs.wr i o t hol hd))
        · rw [gD_ne hol hd, put_ne hd]
          exact (I.tms t fun j hj x hx => ht j hj x (hsub x hx)).ext g1
      -- going on, at this stage (nothing on memory was done)
      have hstay : ∀ (γ1 : Nat → G) (w1 : World) (v' : Value), Ext γ Hc.next γ1 Hc.next → HRel γ1 ⟨base.n, pend.map (·.2) ++ base.pin⟩ w0 Hc w1 → VRel γ1 Hc.next (vAt L i) v' → Steps E.P (lone (b.at a (.inRegion ops (i :: l) :: k)) cs w) (lone (b.at (a.put o.dst v') (.inRegion ops l :: k)) cs w1) →
          (isHeap o = false ∨ (bI < i ∧ hAt L HF (i + 1) = hAt L HF i)) → Runs E.P (lone (b.at a (.inRegion ops (i :: l) :: k)) cs w) b k cs γ base w0 Hc.next fr.rc .normal { fr with tm := tmF } HF := by
        intro γ1 w1 v' g1 g2 g3 g4 g5
        refine ((ih γ1 w1 (a.put o.dst v') bI Hc pend ⟨I.cur, I.le, fun j o' hj hh hlt => hDup j (I.lo j o' hj hh hlt), fun j o' hj hh hle hd => ?_, fun x hx => ?_, I.inj, I.out, hcl, g2, by rw [put_size]; exact I.sz, htms γ1 Hc.next v' pend g1 (fun x hx => hx) (fun _ => g3), by rw [Act.put_defers']; exact I.dfs.ext g1, I.rc.ext g1⟩ ?_).more g1 (Chg.refl _ _)).after g4
        · by_cases e : j = i
          · subst e
            rw [hol] at hj; injection hj with hj; subst hj
            rcases g5 with q | ⟨_, q⟩
            · rw [q] at hh; cases hh
            · exact .inl ⟨q, hnp⟩
          · rw [if_neg e] at hd; exact I.hi j o' hj hh hle hd
        · obtain ⟨q1, q2, ox, r, q3, q4, q5, q6, q7, q8⟩ := I.pe x hx
          exact ⟨q1, hDup _ q2, ox, r, q3, q4, q5, q6, q7.ext g1, fun d hd => by rw [put_ne (hdn x hx ox d q3 hd)]; exact q8 d hd⟩
        · intro hlt
          obtain ⟨ob, hob, hhb, hDb⟩ := hat hlt
          have : bI ≠ i := fun e => by
            rw [e, hol] at hob; injection hob with hob; subst hob
            rcases g5 with q | ⟨q, _⟩
            · rw [q] at hhb; cases hhb
            · omega
          exact ⟨ob, hob, hhb, by show (if bI = i then true else D bI) = false; rw [if_neg this]; exact hDb⟩
      -- going on, at the next stage
      have hgo : ∀ (γ1 : Nat → G) (w1 : World) (v' : Value), Ext γ Hc.next γ1 (hAt L HF (i + 1)).next → HRel γ1 ⟨base.n, pend.map (·.2) ++ base.pin⟩ w0 (hAt L HF (i + 1)) w1 → VRel γ1 (hAt L HF (i + 1)).next (vAt L i) v' → Steps E.P (lone (b.at a (.inRegion ops (i :: l) :: k)) cs w) (lone (b.at (a.put o.dst v') (.inRegion ops l :: k)) cs w1) →
          isHeap o = true → i = bI → Runs E.P (lone (b.at a (.inRegion ops (i :: l) :: k)) cs w) b k cs γ base w0 Hc.next fr.rc .normal { fr with tm := tmF } HF := by
        intro γ1 w1 v' g1 g2 g3 g4 g5 e
        subst e
        have inv : Inv0 ops.toList L HF fr.tm fr.nt base w0 fr.df b.kind cs fr.pk γ1 w1 (a.put o.dst v') (fun j => if j = i then true else D j) (i + 1) (hAt L HF (i + 1)) pend := by
          refine ⟨rfl, by omega, fun j o' hj hh hlt => ?_, fun j o' hj hh hle hd => ?_, fun x hx => ?_, I.inj, I.out, hcl, g2, by rw [put_size]; exact I.sz, htms γ1 _ v' pend g1 (fun x hx => hx) (fun _ => g3), by rw [Act.put_defers']; exact I.dfs.ext g1, I.rc.ext g1⟩
          · by_cases e : j = i
            · simp only [if_pos e]
            · exact hDup j (I.lo j o' hj hh (by omega))
          · have e : j ≠ i := by omega
            rw [if_neg e] at hd; exact I.hi j o' hj hh (by omega) hd
          · obtain ⟨q1, q2, ox, r, q3, q4, q5, q6, q7, q8⟩ := I.pe x hx
            have := hnp x hx
            exact ⟨by omega, hDup _ q2, ox, r, q3, q4, q5, q6, q7.ext g1, fun d hd => by rw [put_ne (hdn x hx ox d q3 hd)]; exact q8 d hd⟩
        obtain ⟨γ2, b2, H2, p2, m1, m2, m3⟩ := Inv0.advance hquiet (ops.toList.length - (i + 1)) (i + 1) γ1 _ pend (by omega) inv
        exact ((ih γ2 w1 (a.put o.dst v') b2 H2 p2 m2 m3).more (g1.trans m1) (Chg.refl _ _)).after g4
      have hev : EvRel γ Hc.next (evP (fun t => (looks ops.toList o).contains t) (gD ops.toList D (vAt L) fr.tm) Hc.g0) a.eval := evP_ok I.rel hokv
      rcases hspec i o hol with ⟨hw, hv, hh⟩ | ⟨hw, hst⟩
      · -- not wanted
        rw [hw] at hwant
        have hst := step_op_skip (P := E.P) (b := b) (a := a) (k := k) (cs := cs) (w := w) (ops := ops) (i := i) (rest := l) (by simp [ho, hwant])
        rw [ho] at hst
        cases hq : isHeap o with
        | false => exact hstay γ w undef (Ext.refl _ _) I.rel (by rw [hv]; exact VRel.undef) (.one hst) (.inl hq)
        | true =>
          rcases hstage hq with e | ⟨e, _⟩
          · have hcur : hAt L HF (i + 1) = Hc := by rw [hh, e]; exact I.cur
            exact hgo γ w undef (by rw [hcur]; exact Ext.refl _ _) (by rw [hcur]; exact I.rel) (by rw [hv]; exact VRel.undef) (.one hst) hq e
          · exact hstay γ w undef (Ext.refl _ _) I.rel (by rw [hv]; exact VRel.undef) (.one hst) (.inr ⟨e, hh⟩)
      · rw [hw] at hwant
        cases hq : isHeap o with
        | true =>
          rcases hstage hq with e | ⟨e, hmv, hng⟩
          · have hst' : StepR E call (evP (fun t => (looks ops.toList o).contains t) (gD ops.toList D (vAt L) fr.tm) Hc.g0) Hc o (vAt L i) (hAt L HF (i + 1)) := by
              rw [show hAt L HF i = Hc by rw [e]; exact I.cur] at hst
              unfold StepR at hst ⊢
              rw [aop_congrP (all := ops.toList) (g' := (tmA ops.toList L i fr.tm).get undef) (fun t ht => ⟨by simpa using ht, (hlook t ht).1.1⟩)]
              rw [evF_evG] at hst
              exact hst
            obtain ⟨γ1, v', w1, k1, k2, k3, k4⟩ := op_exec hE hc ho hwant I.rel hev hst'
            exact hgo γ1 w1 v' k1 k2 k3 k4 hq e
          · -- made early
            have hev0 : EvRel γ Hc.next (evP (fun t => (looks ops.toList o).contains t) (gD ops.toList D (vAt L) fr.tm) 0) a.eval := evP_early hokv
            have hcg : ∀ g0 H1, aop E (evP (fun t => (looks ops.toList o).contains t) (gD ops.toList D (vAt L) fr.tm) 0) o.op H1 = aop E (evF (tmA ops.toList L i fr.tm) g0) o.op H1 := fun g0 H1 => by
              rw [evF_evG]
              exact aop_congrE (all := ops.toList) hng (fun t ht => ⟨by simpa using ht, (hlook t ht).1.1⟩)
            have hal : aop E (evF (tmA ops.toList L i fr.tm) (hAt L HF i).g0) o.op (hAt L HF i) = some (.val (vAt L i), hAt L HF (i + 1)) := by
              rcases hst with ha | ⟨ha, _⟩ | ⟨f, args, H1, ha, _⟩
              · exact ha
              · have := ha; rw [← hcg] at this; obtain ⟨r, ob, q, _⟩ := aop_mov hE hev0 hmv this; cases q
              · have := ha; rw [← hcg] at this; obtain ⟨r, ob, q, _⟩ := aop_mov hE hev0 hmv this; cases q
            rw [← hcg] at hal
            obtain ⟨r, ob, r1, r2, r3, r4⟩ := aop_mov hE hev0 hmv hal
            injection r1 with r1
            have hst := op_value (P := E.P) (b := b) (k := k) (cs := cs) (rest := l) ho hwant (r4 w)
            have hpn := I.rel.pinned ob
            have hlt : ∀ q ∈ pend.map (·.2) ++ base.pin, q.1 < w.heap.size := fun q hq => (Array.getElem?_eq_some_iff.1 (I.rel.pins q hq).2.1).1
            refine ((ih γ (w.alloc ob) (a.put o.dst (r.mk w.heap.size)) bI Hc ((i, w.heap.size, ob) :: pend) ⟨I.cur, I.le, fun j o' hj hh hlt => hDup j (I.lo j o' hj hh hlt), fun j o' hj hh hle hd => ?_, fun x hx => ?_, fun x hx y hy hxy => ?_, fun x hx q hq => ?_, hcl, hpn, by rw [put_size]; exact I.sz, htms γ Hc.next _ _ (Ext.refl _ _) (fun x hx => List.mem_cons_of_mem _ hx) (fun hno => absurd rfl (hno (i, w.heap.size, ob) (by simp))), by rw [Act.put_defers']; exact I.dfs, I.rc⟩ ?_)).after (.one hst)
            · by_cases e2 : j = i
              · exact .inr ⟨(i, w.heap.size, ob), by simp, e2.symm⟩
              · rw [if_neg e2] at hd
                rcases I.hi j o' hj hh hle hd with ⟨u1, u2⟩ | ⟨x, hx, u⟩
                · refine .inl ⟨u1, fun x hx => ?_⟩
                  rcases List.mem_cons.1 hx with q | q
                  · subst q; exact Ne.symm e2
                  · exact u2 x q
                · exact .inr ⟨x, List.mem_cons_of_mem _ hx, u⟩
            · rcases List.mem_cons.1 hx with q | q
              · subst q
                exact ⟨by show bI ≤ i; omega, by simp, o, r, hol, hq, r1, r2, r3, fun d hd => by rw [hd, put_at I.sz (hs.lt i o d hol hd)]⟩
              · obtain ⟨q1, q2, ox, r', q3, q4, q5, q6, q7, q8⟩ := I.pe x q
                exact ⟨q1, hDup _ q2, ox, r', q3, q4, q5, q6, q7, fun d hd => by rw [put_ne (hdn x q ox d q3 hd)]; exact q8 d hd⟩
            · rcases List.mem_cons.1 hx with q | q <;> rcases List.mem_cons.1 hy with q' | q'
              · subst q q'; rfl
              · subst q
                have := hlt y.2 (List.mem_append_left _ (List.mem_map.2 ⟨y, q', rfl⟩))
                have hxy' : w.heap.size = y.2.1 := hxy
                omega
              · subst q'
                have := hlt x.2 (List.mem_append_left _ (List.mem_map.2 ⟨x, q, rfl⟩))
                have hxy' : x.2.1 = w.heap.size := hxy
                omega
              · exact I.inj x q y q' hxy
            · rcases List.mem_cons.1 hx with q2 | q2
              · subst q2
                have := hlt q (List.mem_append_right _ hq)
                show q.1 ≠ w.heap.size
                omega
              · exact I.out x q2 q hq
            · intro hlt2
              obtain ⟨ob2, hob, hhb, hDb⟩ := hat hlt2
              exact ⟨ob2, hob, hhb, by show (if bI = i then true else D bI) = false; rw [if_neg (by omega)]; exact hDb⟩
        | false =>
          have hqq : quiet o.op = true := by unfold isHeap at hq; simpa using hq
          have hck := check_spec (hcheck bI (by have := I.le; omega) (fun q => by obtain ⟨ob, h1, h2, _⟩ := hat (by omega); exact ⟨ob, h1, h2⟩)) hol hqq (by rw [← hwantF]; exact hw) (by
            cases hb : bitAt ((masks ops.toList).getD i 0) bI with
            | false => rfl
            | true =>
              have hlt := masks_lt hs.bel hol hb
              obtain ⟨ob, hob, hhb, hDb⟩ := hat (by omega)
              rw [hPi bI hb] at hDb; cases hDb) (by
            intro j hj
            obtain ⟨hj1, oj, hoj, hhj⟩ := heapsBefore_mem.1 hj
            cases hb : bitAt ((masks ops.toList).getD j 0) i with
            | false => rfl
            | true =>
              have := hPd j oj hoj (I.lo j oj hoj hhj hj1) i hb
              rw [hDi] at this
              cases this)
          rw [I.cur] at hck
          have hst' : StepR E call (evP (fun t => (looks ops.toList o).contains t) (gD ops.toList D (vAt L) fr.tm) Hc.g0) Hc o (vAt L i) Hc := by
            left
            rw [evF_evG] at hck
            rw [aop_congrP (all := ops.toList) (fun t ht => ⟨by simpa using ht, (hlook t ht).1.2⟩)]
            exact hck
          obtain ⟨γ1, v', w1, k1, k2, k3, k4⟩ := op_exec hE hc ho hwant I.rel hev hst'
          exact hstay γ1 w1 v' k1 k2 k3 k4 (.inl hq)
  have hDf : ∀ j, (Array.replicate ops.size false).getD j false = false := by
    intro j
    rw [Array.getD_eq_getD_getElem?, Array.getElem?_replicate]
    split <;> rfl
  have hg0 : ∀ t, gD ops.toList (fun j => (Array.replicate ops.size false).getD j false) (vAt L) fr.tm t = fr.tm.get undef t := by
    intro t
    unfold gD
    cases writer ops.toList t with
    | none => rfl
    | some j => simp only [hDf]; rfl
  have inv : Inv0 ops.toList L HF fr.tm fr.nt base w0 fr.df b.kind cs fr.pk γ w a (fun j => (Array.replicate ops.size false).getD j false) 0 H [] := by
    refine ⟨hH0, Nat.zero_le _, fun i o _ _ q => (by omega), fun i o _ _ _ q => (by rw [hDf] at q; cases q), fun x hx => (by cases hx), fun x hx => (by cases hx), fun x hx => (by cases hx), fun i o _ q => (by rw [hDf] at q; cases q), hR, hF.tm.1, fun t _ => by rw [hg0]; exact hF.tm.2 t, hF.df, hP⟩
  obtain ⟨γ2, b2, H2, p2, m1, m2, m3⟩ := Inv0.advance hquiet ops.toList.length 0 γ H [] (by omega) inv
  exact (main _ _ hsd γ2 w a b2 H2 p2 m2 m3).more m1 (Chg.refl _ _)
end
end Go.Proofs.YtkgplklamfpfkaaDoor.Sh
