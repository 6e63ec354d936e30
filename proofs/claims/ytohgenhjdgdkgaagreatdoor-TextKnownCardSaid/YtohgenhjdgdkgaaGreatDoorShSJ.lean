import Derived.Test.YtohgenhjdgdkgaaGreatDoorShSI
import Derived.Test.YtohgenhjdgdkgaaGreatDoorShSP
namespace Go.Proofs.YtohgenhjdgdkgaaGreatDoor.Sh
open Go.RowKit
set_option linter.unusedVariables false
set_option linter.unusedSimpArgs false

/-! ### any order -/
inductive Sched (ops : Array Oper) : (Nat → Bool) → List Nat → Prop where
  | nil (D : Nat → Bool) : (∀ i, i < ops.size → D i = true) → Sched ops D []
  | cons (D : Nat → Bool) (i : Nat) (l : List Nat) (o : Oper) : ops[i]? = some o → D i = false → (∀ e ∈ edgesOf o, D e = true) → Sched ops (fun j => if j = i then true else D j) l → Sched ops D (i :: l)
theorem Sched.congr {ops : Array Oper} {D D' : Nat → Bool} {l : List Nat} (h : Sched ops D l) (hD : ∀ i, D' i = D i) : Sched ops D' l := by
  have : D' = D := funext hD
  rw [this]; exact h
noncomputable def below (ops : List Oper) : Bool := (List.range ops.length).all fun i => match ops[i]? with
  | some o => (edgesOf o).all fun e => Nat.blt e i
  | none => true
theorem below_spec {ops : List Oper} (h : below ops = true) {i : Nat} {o : Oper} (ho : ops[i]? = some o) : ∀ e ∈ edgesOf o, e < i := by
  intro e he
  have hi := (List.getElem?_eq_some_iff.1 ho).1
  have := List.all_eq_true.1 h i (List.mem_range.2 hi)
  rw [ho] at this
  have := List.all_eq_true.1 this e he
  rw [blt_eq] at this
  exact of_decide_eq_true this
theorem count_set {listed : Array Bool} {i : Nat} (hi : listed.getD i true = false) : (listed.setIfInBounds i true).toList.count false + 1 = listed.toList.count false := by
  have hlt : i < listed.toList.length := by
    rcases Nat.lt_or_ge i listed.size with h | h
    · simpa using h
    · rw [Array.getD_eq_getD_getElem?, Array.getElem?_eq_none h] at hi; cases hi
  have hv : listed.toList[i] = false := by
    rw [Array.getD_eq_getD_getElem?, ← Array.getElem?_toList, List.getElem?_eq_getElem hlt] at hi
    simpa using hi
  rw [Array.toList_setIfInBounds, List.count_set hlt, hv]
  have hpos : 0 < listed.toList.count false := List.count_pos_iff.2 (by rw [← hv]; exact List.getElem_mem hlt)
  have e1 : (if (false == false) = true then 1 else 0) = 1 := rfl
  have e2 : (if (true == false) = true then 1 else 0) = 0 := rfl
  rw [e1, e2]
  omega
theorem sched_go {ops : Array Oper} (hb : below ops.toList = true) : ∀ (fuel t : Nat) (listed : Array Bool), listed.size = ops.size → listed.toList.count false ≤ fuel → Sched ops (fun j => listed.getD j false) (Region.linearise.go .any ops fuel t listed []) := by
  have alln : ∀ (listed : Array Bool), listed.size = ops.size → Region.ready .any ops listed = [] → ∀ i, i < ops.size → listed.getD i false = true := by
    intro listed hs hr i
    induction i using Nat.strongRecOn with
    | _ i ih =>
      intro hi
      false_or_by_contra
      rename_i hne
      have ho : ops[i]? = some (ops[i]) := Array.getElem?_eq_getElem hi
      have : i ∈ Region.ready .any ops listed := by
        rw [mem_ready]
        refine ⟨?_, _, ho, fun e he hbe => ?_⟩
        · have h1 : i < listed.size := by omega
          rw [Array.getD_eq_getD_getElem?, Array.getElem?_eq_getElem h1] at hne ⊢
          simpa using hne
        · have hee : e.on ∈ edgesOf ops[i] := List.mem_map.2 ⟨e, List.mem_filter.2 ⟨Array.mem_toList_iff.2 he, hbe⟩, rfl⟩
          have hlt := below_spec hb (i := i) (o := ops[i]) (by rw [Array.getElem?_toList]; exact ho) _ hee
          exact ih e.on hlt (by omega)
      rw [hr] at this
      cases this
  intro fuel
  induction fuel with
  | zero =>
    intro t listed hs hc
    refine .nil _ fun i hi => ?_
    have h1 : i < listed.toList.length := by simp; omega
    have hv : listed.toList[i] = true := by
      false_or_by_contra
      rename_i hne
      have hf : listed.toList[i] = false := by simpa using hne
      have : 0 < listed.toList.count false := List.count_pos_iff.2 (by rw [← hf]; exact List.getElem_mem h1)
      omega
    rw [Array.getD_eq_getD_getElem?, ← Array.getElem?_toList, List.getElem?_eq_getElem h1, hv]; rfl
  | succ fuel ih =>
    intro t listed hs hc
    simp only [Region.linearise.go]
    change Sched ops _ (match (Region.ready .any ops listed)[t % (Region.ready .any ops listed).length]? with
      | some i => Region.linearise.go .any ops fuel (t / (Region.ready .any ops listed).length) (listed.setIfInBounds i true) [i]
      | none => [].reverse)
    cases hi : (Region.ready .any ops listed)[t % (Region.ready .any ops listed).length]? with
    | none =>
      have hnil : Region.ready .any ops listed = [] := by
        cases hr : Region.ready .any ops listed with
        | nil => rfl
        | cons x xs =>
          rw [hr] at hi
          have hlt : t % (x :: xs).length < (x :: xs).length := Nat.mod_lt _ (by simp)
          simp at hi
          simp at hlt
          omega
      exact .nil _ (alln listed hs hnil)
    | some i =>
      have hm := mem_ready.1 (List.mem_of_getElem? hi)
      obtain ⟨h0, o, ho, he⟩ := hm
      simp only []
      rw [linearise_go_acc, List.reverse_singleton, List.singleton_append]
      have hD : listed.getD i false = false := by
        have hlt : i < listed.size := by rw [hs]; exact (Array.getElem?_eq_some_iff.1 ho).1
        rw [Array.getD_eq_getD_getElem?, Array.getElem?_eq_getElem hlt] at h0 ⊢
        simpa using h0
      refine .cons _ i _ o ho hD (fun e hee => ?_) ?_
      · obtain ⟨ed, hed, rfl⟩ := List.mem_map.1 hee
        obtain ⟨h1, h2⟩ := List.mem_filter.1 hed
        exact he ed (Array.mem_toList_iff.1 h1) h2
      · refine (ih _ (listed.setIfInBounds i true) (by simpa using hs) (by have := count_set h0; omega)).congr fun j => ?_
        by_cases hj : j = i
        · subst hj
          have hlt : j < listed.size := by rw [hs]; exact (Array.getElem?_eq_some_iff.1 ho).1
          rw [if_pos rfl, Array.getD_eq_getD_getElem?, Array.getElem?_setIfInBounds]; simp [hlt]
        · rw [if_neg hj, getD_set_ne false (Ne.symm hj)]
/-! the evaluation -/
noncomputable def tmpsOf : List Operand → List Tmp
  | [] => []
  | .tmp t :: l => t :: tmpsOf l
  | _ :: l => tmpsOf l
noncomputable def looks (all : List Oper) (o : Oper) : List Tmp :=
  (match o.guard with
  | some (j, _) => match all[j]? with
    | some oj => oj.dst.toList
    | none => []
  | none => []) ++ tmpsOf (opsOf o.op)
noncomputable def writerGo (t : Tmp) : List Oper → Nat → Option Nat
  | [], _ => none
  | o :: r, i => match o.dst with
    | some d => match Nat.beq d t with
      | true => some i
      | false => writerGo t r (i + 1)
    | none => writerGo t r (i + 1)
noncomputable def writer (ops : List Oper) (t : Tmp) : Option Nat := writerGo t ops 0
noncomputable def isHeap (E : FEnv) (o : Oper) : Bool := !(quiet E o.op)
/-- Orders: which operation stands at a place, and where each stands. -/
noncomputable def posOf : List Nat → Nat → Nat
  | [], _ => 0
  | x :: l, i => match Nat.beq x i with
    | true => 0
    | false => posOf l i + 1
noncomputable def ranks (ord : List Nat) (n : Nat) : List Nat := (List.range n).map (posOf ord)
noncomputable def rk (R : List Nat) (i : Nat) : Nat := R.getD i 0
noncomputable def heapsBefore (E : FEnv) (ops : List Oper) (R : List Nat) (k : Nat) : List Nat := (List.range ops.length).filter fun j => match ops[j]? with
  | some o => isHeap E o && Nat.blt (rk R j) k
  | none => false
noncomputable def permOps (ops : List Oper) (ord : List Nat) : List Oper := ord.map fun i => (ops[i]?).getD default
noncomputable def noGlob : List Operand → Bool
  | [] => true
  | .global _ :: _ => false
  | _ :: l => noGlob l
noncomputable def derivable (o : Oper) : Bool := pureOp o.op && noGlob (opsOf o.op)
noncomputable def derivFor (ops : List Oper) (P : List Nat) (i k : Nat) : Bool := match ops[k]? with
  | some o => derivable o && (match o.guard with
    | none => true
    | some (j, _) => !(Nat.beq j i) && !(bitAt (P.getD j 0) i))
  | none => false
/-- A new block that may be made early: whatever looks at it waits for all that the run does ahead of it, or is pure. -/
noncomputable def mayEarly (E : FEnv) (ops : List Oper) (P R : List Nat) (i : Nat) (o : Oper) : Bool :=
  movable o.op && noGlob (opsOf o.op) && (List.range ops.length).all fun k => !(bitAt (P.getD k 0) i) || derivFor ops P i k || (heapsBefore E ops R (rk R i)).all fun j => bitAt (P.getD k 0) j
noncomputable def ordOK (P ord R : List Nat) (n : Nat) : Bool :=
  Nat.beq ord.length n && (List.range n).all fun i =>
    (match ord[rk R i]? with
    | some j => Nat.beq j i
    | none => false) &&
    (match ord[i]? with
    | some j => Nat.blt j n && Nat.beq (rk R j) i
    | none => false) &&
    (List.range n).all fun j => !(bitAt (P.getD i 0) j) || Nat.blt (rk R j) (rk R i)
noncomputable def ltOK (ops : List Oper) (nt : Nat) : Bool := ops.all fun o => match o.dst with
  | some d => Nat.blt d nt
  | none => true
noncomputable def statOK (E : FEnv) (ops : List Oper) (P ord R : List Nat) : Bool :=
  below ops && ordOK P ord R ops.length && (List.range ops.length).all fun i => match ops[i]? with
    | some o =>
      (match o.dst with
      | some d => (match writer ops d with
        | some j => Nat.beq j i
        | none => false)
      | none => true) &&
      ((looks ops o).all fun t => match writer ops t with
        | some j => bitAt (P.getD i 0) j || bitAt (P.getD j 0) i
        | none => true) &&
      (match isHeap E o with
      | true => ((heapsBefore E ops R (rk R i)).all fun j => bitAt (P.getD i 0) j) || mayEarly E ops P R i o
      | false => true)
    | none => true
/-- New blocks sink behind what need not wait for them. -/
noncomputable def sinkGo (ops : List Oper) (P : List Nat) : List Nat → List Nat → List Nat
  | [], pend => pend
  | i :: r, pend => match ops[i]? with
    | some o => match movable o.op && noGlob (opsOf o.op) with
      | true => sinkGo ops P r (pend ++ [i])
      | false => (pend.filter fun j => bitAt (P.getD i 0) j) ++ i :: sinkGo ops P r (pend.filter fun j => !(bitAt (P.getD i 0) j))
    | none => sinkGo ops P r pend
noncomputable def pass1 (E : FEnv) (call : CallT) (all : List Oper) : List Oper → F Value → AH → Option (List (Value × AH) × F Value × AH)
  | [], tm, H => some ([], tm, H)
  | o :: r, tm, H =>
    let put (v : Value) : F Value := match o.dst with
      | some d => tm.set undef d v
      | none => tm
    match wantedB all tm o with
    | false => match pass1 E call all r (put undef) H with
      | some (l, x) => some ((undef, H) :: l, x)
      | none => none
    | true => match aop E (evF tm H.g0) o.op H with
      | some (.val v, H') => match pass1 E call all r (put v) H' with
        | some (l, x) => some ((v, H) :: l, x)
        | none => none
      | some (.skip, H') => match pass1 E call all r (put undef) H' with
        | some (l, x) => some ((undef, H) :: l, x)
        | none => none
      | some (.enter f args, H') => match call f args H' none with
        | some (.ret v, H2, false) => match pass1 E call all r (put v) H2 with
          | some (l, x) => some ((v, H) :: l, x)
          | none => none
        | _ => none
      | _ => none
/-- What an operation reads in a slot: what the region has put there, or what stood there (its writer waits for the reader). -/
noncomputable def oldOr (ops : List Oper) (P : List Nat) (i : Nat) (tm0 tmF : F Value) (t : Nat) : Value :=
  match writer ops t with
  | some j => match bitAt (P.getD i 0) j with
    | true => tmF.get undef t
    | false => tm0.get undef t
  | none => tm0.get undef t
noncomputable def evO (g : Nat → Value) (g0 : Nat) : Ev
  | .tmp t => some (g t)
  | x => evF .lf g0 x
noncomputable def wantedO (all : List Oper) (g : Nat → Value) (o : Oper) : Bool :=
  match o.guard with
  | none => true
  | some (j, want) => match all[j]? with
    | some oj => match oj.dst with
      | some d => match g d with
        | .bool b => boolEq b want
        | _ => false
      | none => false
    | none => false
noncomputable def checkAt (E : FEnv) (ops : List Oper) (P R : List Nat) (L : List (Value × AH)) (tm0 tmF : F Value) (lim b k : Nat) (Hs : AH) : Bool :=
  (List.range ops.length).all fun i => match ops[i]? with
    | some o => match quiet E o.op && Nat.blt (rk R i) lim && wantedO ops (oldOr ops P i tm0 tmF) o && !(bitAt (P.getD i 0) b) && (heapsBefore E ops R k).all fun h => !(bitAt (P.getD h 0) i) with
      | true => match aop E (evO (oldOr ops P i tm0 tmF) Hs.g0) o.op Hs, L[rk R i]? with
        | some (.val v, _), some (u, _) => vEq 30 v u
        | _, _ => false
      | false => true
    | none => true
/-- Up to an operation that panics. -/
noncomputable def pass1P (E : FEnv) (call : CallT) (all : List Oper) : List Oper → F Value → AH → Option (List (Value × AH) × F Value × AH × Value × AH)
  | [], tm, H => none
  | o :: r, tm, H =>
    let put (v : Value) : F Value := match o.dst with
      | some d => tm.set undef d v
      | none => tm
    match wantedB all tm o with
    | false => match pass1P E call all r (put undef) H with
      | some (l, x) => some ((undef, H) :: l, x)
      | none => none
    | true => match aop E (evF tm H.g0) o.op H with
      | some (.val v, H') => match pass1P E call all r (put v) H' with
        | some (l, x) => some ((v, H) :: l, x)
        | none => none
      | some (.skip, H') => match pass1P E call all r (put undef) H' with
        | some (l, x) => some ((undef, H) :: l, x)
        | none => none
      | some (.enter f args, H') => match call f args H' none with
        | some (.ret v, H2, false) => match pass1P E call all r (put v) H2 with
          | some (l, x) => some ((v, H) :: l, x)
          | none => none
        | some (.pan v, H2, false) => some ([], tm, H, v, H2)
        | _ => none
      | some (.panic v, H') => some ([], tm, H, v, H')
      | _ => none
noncomputable def wipe : List Oper → F Value → F Value
  | [], tm => tm
  | o :: r, tm => match o.dst with
    | some d => wipe r (tm.set undef d undef)
    | none => wipe r tm
/-- A drawn region that panics, in one order. -/
noncomputable def drawnP (E : FEnv) (call : CallT) (ops : List Oper) (P ord R : List Nat) (fr : Fr) (H : AH) : Option (Ex × Fr × AH) :=
  match pass1P E call ops (permOps ops ord) fr.tm H with
  | some (L, tmP, HP, v, H') => match ord[L.length]? with
    | some z => match ops[z]? with
      | some oz => match isHeap E oz && !(movable oz.op) &&
          ((List.range ops.length).all fun i => !(Nat.blt L.length (rk R i)) || bitAt (P.getD i 0) z) &&
          ((heapsBefore E ops R (L.length + 1)).all fun b => match (L ++ List.replicate (ops.length - L.length) (undef, HP))[rk R b]? with
            | some (_, Hb) => checkAt E ops P R (L ++ List.replicate (ops.length - L.length) (undef, HP)) fr.tm tmP L.length b (rk R b) Hb
            | none => false) with
        | true => some (.panic v, { fr with tm := wipe ops fr.tm }, H')
        | false => none
      | none => none
    | none => none
  | none => none
/-- A drawn region in one order. -/
noncomputable def drawnO (E : FEnv) (call : CallT) (ops : List Oper) (P ord R : List Nat) (fr : Fr) (H : AH) : Option (Ex × Fr × AH) :=
  match pass1 E call ops (permOps ops ord) fr.tm H with
  | some (L, tmF, HF) =>
    match ((heapsBefore E ops R ops.length).all fun b => match L[rk R b]? with
        | some (_, Hb) => checkAt E ops P R L fr.tm tmF ops.length b (rk R b) Hb
        | none => false) && checkAt E ops P R L fr.tm tmF ops.length ops.length ops.length HF with
    | true => some (.normal, { fr with tm := tmF }, HF)
    | false => none
  | none => drawnP E call ops P ord R fr H
noncomputable def drawnE (E : FEnv) (call : CallT) (ops : List Oper) (fr : Fr) (H : AH) : Option (Ex × Fr × AH) :=
  match ltOK ops fr.nt with
  | true => match statOK E ops (masks ops) (List.range ops.length) (ranks (List.range ops.length) ops.length) with
    | true => drawnO E call ops (masks ops) (List.range ops.length) (ranks (List.range ops.length) ops.length) fr H
    | false => match statOK E ops (masks ops) (sinkGo ops (masks ops) (List.range ops.length) []) (ranks (sinkGo ops (masks ops) (List.range ops.length) []) ops.length) with
      | true => drawnO E call ops (masks ops) (sinkGo ops (masks ops) (List.range ops.length) []) (ranks (sinkGo ops (masks ops) (List.range ops.length) []) ops.length) fr H
      | false => none
  | false => none
end Go.Proofs.YtohgenhjdgdkgaaGreatDoor.Sh
