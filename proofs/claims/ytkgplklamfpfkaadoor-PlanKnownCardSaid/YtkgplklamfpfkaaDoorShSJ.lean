import Derived.Test.YtkgplklamfpfkaaDoorShSI
import Derived.Test.YtkgplklamfpfkaaDoorShSP
namespace Go.Proofs.YtkgplklamfpfkaaDoor.Sh
open Go.RowKit
set_option linter.unusedVariables false
set_option linter.unusedSimpArgs false

/-! ### any order -/
inductive Sched (ops : Array Oper) : (Nat → Bool) → List Nat → Prop where
  | nil (D : Nat → Bool) : (∀ i, i < ops.size → D i = true) → Sched ops D []
  | cons (D : Nat → Bool) (i : Nat) (l : List Nat) (o : Oper) : ops[i]? = some o → D i = false → (∀ e ∈ edgesOf o, D e = true) → Sched ops (fun j => if j = i then true else D j) l → Sched ops D (i :: l)
theorem Sched.congr {ops : Array Oper} {D D' : Nat → Bool} {l : List Nat} (h : Sched ops D l) (hD : ∀ i, D' i = D i) : Sched ops D' l := by
  have : D' = D := funext hD
  rw [this]; exact h
def below (ops : List Oper) : Bool := (List.range ops.length).all fun i => match ops[i]? with
  | some o => (edgesOf o).all fun e => Nat.blt e i
  | none => true
theorem below_spec {ops : List Oper} (h : below ops = true) {i : Nat} {o : Oper} (ho : ops[i]? = some o) : ∀ e ∈ edgesOf o, e < i := by
  intro e he
  have hi := (List.getElem?_eq_some_iff.1 ho).1
  have := List.all_eq_true.1 h i (List.mem_range.2 hi)
  rw [ho] at this
  have := List.all_eq_true.1 this e he
  rw [blt_eq] at this
  exact of_decide_eq_true this
theorem count_set {listed : Array Bool} {i : Nat} (hi : listed.getD i true = false) : (listed.setIfInBounds i true).toList.count false + 1 = listed.toList.count false := by
  have hlt : i < listed.toList.length := by
    rcases Nat.lt_or_ge i listed.size with h | h
    · simpa using h
    · rw [Array.getD_eq_getD_getElem?, Array.getElem?_eq_none h] at hi; cases hi
  have hv : listed.toList[i] = false := by
    rw [Array.getD_eq_getD_getElem?, ← Array.getElem?_toList, List.getElem?_eq_getElem hlt] at hi
    simpa using hi
  rw [Array.toList_setIfInBounds, List.count_set hlt, hv]
  have hpos : 0 < listed.toList.count false := List.count_pos_iff.2 (by rw [← hv]; exact List.getElem_mem hlt)
  have e1 : (if (false == false) = true then 1 else 0) = 1 := rfl
  have e2 : (if (true == false) = true then 1 else 0) = 0 := rfl
  rw [e1, e2]
  omega
theorem sched_go {ops : Array Oper} (hb : below ops.toList = true) : ∀ (fuel t : Nat) (listed : Array Bool), listed.size = ops.size → listed.toList.count false ≤ fuel → Sched ops (fun j => listed.getD j false) (Region.linearise.go .any ops fuel t listed []) := by
  have alln : ∀ (listed : Array Bool), listed.size = ops.size → Region.ready .any ops listed = [] → ∀ i, i < ops.size → listed.getD i false = true := by
    intro listed hs hr i
    induction i using Nat.strongRecOn with
    | _ i ih =>
      intro hi
      false_or_by_contra
      rename_i hne
      have ho : ops[i]? = some (ops[i]) := Array.getElem?_eq_getElem hi
      have : i ∈ Region.ready .any ops listed := by
        rw [mem_ready]
        refine ⟨?_, _, ho, fun e he hbe => ?_⟩
        · have h1 : i < listed.size := by omega
          rw [Array.getD_eq_getD_getElem?, Array.getElem?_eq_getElem h1] at hne ⊢
          simpa using hne
        · have hee : e.on ∈ edgesOf ops[i] := List.mem_map.2 ⟨e, List.mem_filter.2 ⟨Array.mem_toList_iff.2 he, hbe⟩, rfl⟩
          have hlt := below_spec hb (i := i) (o := ops[i]) (by rw [Array.getElem?_toList]; exact ho) _ hee
          exact ih e.on hlt (by omega)
      rw [hr] at this
      cases this
  intro fuel
  induction fuel with
  | zero =>
    intro t listed hs hc
    refine .nil _ fun i hi => ?_
    have h1 : i < listed.toList.length := by simp; omega
    have hv : listed.toList[i] = true := by
      false_or_by_contra
      rename_i hne
      have hf : listed.toList[i] = false := by simpa using hne
      have : 0 < listed.toList.count false := List.count_pos_iff.2 (by rw [← hf]; exact List.getElem_mem h1)
      omega
    rw [Array.getD_eq_getD_getElem?, ← Array.getElem?_toList, List.getElem?_eq_getElem h1, hv]; rfl
  | succ fuel ih =>
    intro t listed hs hc
    simp only [Region.linearise.go]
    change Sched ops _ (match (Region.ready .any ops listed)[t % (Region.ready .any ops listed).length]? with
      | some i => Region.linearise.go .any ops fuel (t / (Region.ready .any ops listed).length) (listed.setIfInBounds i true) [i]
      | none => [].reverse)
    cases hi : (Region.ready .any ops listed)[t % (Region.ready .any ops listed).length]? with
    | none =>
      have hnil : Region.ready .any ops listed = [] := by
        cases hr : Region.ready .any ops listed with
        | nil => rfl
        | cons x xs =>
          rw [hr] at hi
          have hlt : t % (x :: xs).length < (x :: xs).length := Nat.mod_lt _ (by simp)
          simp at hi
          simp at hlt
          omega
      exact .nil _ (alln listed hs hnil)
    | some i =>
      have hm := mem_ready.1 (List.mem_of_getElem? hi)
      obtain ⟨h0, o, ho, he⟩ := hm
      simp only []
      rw [linearise_go_acc, List.reverse_singleton, List.singleton_append]
      have hD : listed.getD i false = false := by
        have hlt : i < listed.size := by rw [hs]; exact (Array.getElem?_eq_some_iff.1 ho).1
        rw [Array.getD_eq_getD_getElem?, Array.getElem?_eq_getElem hlt] at h0 ⊢
        simpa using h0
      refine .cons _ i _ o ho hD (fun e hee => ?_) ?_
      · obtain ⟨ed, hed, rfl⟩ := List.mem_map.1 hee
        obtain ⟨h1, h2⟩ := List.mem_filter.1 hed
        exact he ed (Array.mem_toList_iff.1 h1) h2
      · refine (ih _ (listed.setIfInBounds i true) (by simpa using hs) (by have := count_set h0; omega)).congr fun j => ?_
        by_cases hj : j = i
        · subst hj
          have hlt : j < listed.size := by rw [hs]; exact (Array.getElem?_eq_some_iff.1 ho).1
          rw [if_pos rfl, Array.getD_eq_getD_getElem?, Array.getElem?_setIfInBounds]; simp [hlt]
        · rw [if_neg hj, getD_set_ne false (Ne.symm hj)]
/-! the evaluation -/
def tmpsOf : List Operand → List Tmp
  | [] => []
  | .tmp t :: l => t :: tmpsOf l
  | _ :: l => tmpsOf l
def looks (all : List Oper) (o : Oper) : List Tmp :=
  (match o.guard with
  | some (j, _) => match all[j]? with
    | some oj => oj.dst.toList
    | none => []
  | none => []) ++ tmpsOf (opsOf o.op)
def writerGo (t : Tmp) : List Oper → Nat → Option Nat
  | [], _ => none
  | o :: r, i => match o.dst with
    | some d => match Nat.beq d t with
      | true => some i
      | false => writerGo t r (i + 1)
    | none => writerGo t r (i + 1)
def writer (ops : List Oper) (t : Tmp) : Option Nat := writerGo t ops 0
def isHeap (o : Oper) : Bool := !(quiet o.op)
def heapsBefore (ops : List Oper) (i : Nat) : List Nat := (List.range i).filter fun j => match ops[j]? with
  | some o => isHeap o
  | none => false
def noGlob : List Operand → Bool
  | [] => true
  | .global _ :: _ => false
  | _ :: l => noGlob l
/-- A new block that may be made early: whatever looks at it waits for all that the run does ahead of it. -/
def mayEarly (ops : List Oper) (P : List Nat) (i : Nat) (o : Oper) : Bool :=
  movable o.op && noGlob (opsOf o.op) && (List.range ops.length).all fun k => !(bitAt (P.getD k 0) i) || (heapsBefore ops i).all fun j => bitAt (P.getD k 0) j
def statOK (ops : List Oper) (P : List Nat) (nt : Nat) : Bool :=
  below ops && (List.range ops.length).all fun i => match ops[i]? with
    | some o =>
      (match o.dst with
      | some d => Nat.blt d nt && (match writer ops d with
        | some j => Nat.beq j i
        | none => false)
      | none => true) &&
      ((looks ops o).all fun t => match writer ops t with
        | some j => bitAt (P.getD i 0) j
        | none => true) &&
      (match isHeap o with
      | true => ((heapsBefore ops i).all fun j => bitAt (P.getD i 0) j) || mayEarly ops P i o
      | false => true)
    | none => true
def pass1 (E : FEnv) (call : CallT) (all : List Oper) : List Oper → T Value → AH → Option (List (Value × AH) × T Value × AH)
  | [], tm, H => some ([], tm, H)
  | o :: r, tm, H =>
    let put (v : Value) : T Value := match o.dst with
      | some d => tm.set undef d v
      | none => tm
    match wantedB all tm o with
    | false => match pass1 E call all r (put undef) H with
      | some (l, x) => some ((undef, H) :: l, x)
      | none => none
    | true => match aop E (evF tm H.g0) o.op H with
      | some (.val v, H') => match pass1 E call all r (put v) H' with
        | some (l, x) => some ((v, H) :: l, x)
        | none => none
      | some (.skip, H') => match pass1 E call all r (put undef) H' with
        | some (l, x) => some ((undef, H) :: l, x)
        | none => none
      | some (.enter f args, H') => match call f args H' none with
        | some (.ret v, H2, false) => match pass1 E call all r (put v) H2 with
          | some (l, x) => some ((v, H) :: l, x)
          | none => none
        | _ => none
      | _ => none
def checkAt (E : FEnv) (ops : List Oper) (P : List Nat) (L : List (Value × AH)) (tmF : T Value) (b : Nat) (Hs : AH) : Bool :=
  (List.range ops.length).all fun i => match ops[i]? with
    | some o => match quiet o.op && wantedB ops tmF o && !(bitAt (P.getD i 0) b) && (heapsBefore ops b).all fun h => !(bitAt (P.getD h 0) i) with
      | true => match aop E (evF tmF Hs.g0) o.op Hs, L[i]? with
        | some (.val v, _), some (u, _) => vEq 30 v u
        | _, _ => false
      | false => true
    | none => true
def drawnE (E : FEnv) (call : CallT) (ops : List Oper) (fr : Fr) (H : AH) : Option (Ex × Fr × AH) :=
  match statOK ops (masks ops) fr.nt with
  | true => match pass1 E call ops ops fr.tm H with
    | some (L, tmF, HF) =>
      match ((heapsBefore ops ops.length).all fun b => match L[b]? with
          | some (_, Hb) => checkAt E ops (masks ops) L tmF b Hb
          | none => false) && checkAt E ops (masks ops) L tmF ops.length HF with
      | true => some (.normal, { fr with tm := tmF }, HF)
      | false => none
    | none => none
  | false => none
end Go.Proofs.YtkgplklamfpfkaaDoor.Sh
