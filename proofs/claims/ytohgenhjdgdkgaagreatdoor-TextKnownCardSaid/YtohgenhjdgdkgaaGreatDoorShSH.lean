import Derived.Test.YtohgenhjdgdkgaaGreatDoorShSG
import Derived.RangeFuncIn
import Derived.RangeFuncRecord
namespace Go.Proofs.YtohgenhjdgdkgaaGreatDoor.Sh
open Go.RowKit
set_option linter.unusedVariables false
set_option linter.unusedSimpArgs false

section
variable {E : FEnv} {rec : Task → Option TOut} {drawn : CallT → List Oper → Fr → AH → Option (Ex × Fr × AH)}
theorem step_scope_ {P : Program} {b : Frame} {a : Act} {k : List Item} {cs : List Frame} {w : World} {c : Code} : step P (lone (b.atR a (.code (.scope c) :: k)) cs w) = .next (lone (b.atR a (.code c :: .inScope c :: k)) cs w) :=
  step_lone_go (by simp [stepG, stepG.exec, Frame.atR])
theorem step_inScope_ {P : Program} {b : Frame} {a : Act} {k : List Item} {cs : List Frame} {w : World} {c : Code} : step P (lone (b.atR a (.inScope c :: k)) cs w) = .next (lone (b.atR a k) cs w) :=
  step_lone_go (by simp [stepG, stepG.exec, Frame.atR])
/-- Items that exits and jumps pass over. -/
noncomputable def passes : Item → Bool
  | .inBlock _ => false
  | .inScope _ => false
  | _ => true
theorem exit_pass {x : Item} (h : passes x = true) (id : Nat) (k : List Item) : exitTo id (x :: k) = exitTo id k := by
  cases x <;> first | rfl | cases h
theorem goto_pass {x : Item} (h : passes x = true) (l : Nat) (k : List Item) : gotoIn l (x :: k) = gotoIn l k := by
  cases x <;> first | rfl | cases h
theorem Arr.pass {P : Program} {m : Machine} {b : Frame} {a : Act} {x : Item} {k : List Item} {cs : List Frame} {w : World} {γ : Nat → G} {n : Nat} {e : Ex} (hx : passes x = true) (he : e ≠ .normal) (h : Arr P m b a (x :: k) cs w γ n e) : Arr P m b a k cs w γ n e := by
  cases e with
  | normal => exact absurd rfl he
  | exit id => obtain ⟨k1, hk, s⟩ := h; exact ⟨k1, hk.trans (exit_pass hx id k), s⟩
  | ret => exact h
  | panic v => exact h
  | goto l => obtain ⟨k1, hk, s⟩ := h; exact ⟨k1, hk.trans (goto_pass hx l k), s⟩
theorem Runs.pass {P : Program} {m : Machine} {b : Frame} {x : Item} {k : List Item} {cs : List Frame} {γ : Nat → G} {base : Bs} {w0 : World} {n : Nat} {rc : Bool} {e : Ex} {fr' : Fr} {H' : AH} (hx : passes x = true) (he : e ≠ .normal) (r : Runs P m b (x :: k) cs γ base w0 n rc e fr' H') : Runs P m b k cs γ base w0 n rc e fr' H' := by
  obtain ⟨γ', a', w', cs', h1, h2, h3, h4, h4r, h5, h6⟩ := r
  exact ⟨γ', a', w', cs', h1, h2, h3, h4, h4r, h5, h6.pass hx he⟩
/-- Code within a scope. -/
theorem scope_ok {rec : Task → Option TOut} (hr : RecOK E rec) {c r : Code} {fr fr' : Fr} {H H' : AH} {e : Ex} {q : Option TOut} (hq : runScope rec c q = some (.out e fr' H')) (hc : ∀ o, q = some o → TaskOK E (.code r fr H) o)
    {γ : Nat → G} {base : Bs} {w0 w : World} {b : Frame} {a : Act} {k : List Item} {cs : List Frame} (h1 : HRel γ base w0 H w) (h2 : FrRel γ H.next fr a) (h3 : Rc γ H.next b.kind cs fr.pk) (h3r : RO γ H.next fr.rnd b.roundOf) :
    Runs E.P (lone (b.atR a (.code r :: .inScope c :: k)) cs w) b k cs γ base w0 H.next fr.rc e fr' H' := by
  unfold runScope at hq
  split at hq
  · rename_i l fr1 H1
    obtain ⟨γ1, a1, w1, cs1, g1, g2, g3, g4, g4r, g5, k1, hk, g6⟩ := hc _ rfl γ base w0 w b a (.inScope c :: k) cs h1 h2 h3 h3r
    split at hq
    · rename_i rest hf
      have hgi : gotoIn l k1 = some (.code rest :: .inScope c :: k) := hk.trans (by simp [gotoIn, hf])
      have r1 := hr _ _ hq γ1 base w0 w1 b a1 k cs1 g2 g3 g4 g4r
      exact (r1.more g1 g5).after (g6.trans (.one (stepR_goto hgi)))
    · rename_i hf
      injection hq with hq; injection hq with e1 e2 e3; subst e1 e2 e3
      exact ⟨γ1, a1, w1, cs1, g1, g2, g3, g4, g4r, g5, k1, hk.trans (by simp [gotoIn, hf]), g6⟩
  · rename_i hne
    subst hq
    obtain ⟨γ1, a1, w1, cs1, g1, g2, g3, g4, g4r, g5, g6⟩ := hc _ rfl γ base w0 w b a (.inScope c :: k) cs h1 h2 h3 h3r
    refine ⟨γ1, a1, w1, cs1, g1, g2, g3, g4, g4r, g5, ?_⟩
    cases e with
    | normal => exact Steps.trans g6 (.one step_inScope_)
    | exit id => obtain ⟨k1, hk, s⟩ := g6; exact ⟨k1, hk, s⟩
    | ret => exact g6
    | panic v => exact g6
    | goto l => exact (hne _ _ _ rfl).elim
/-- Behind a piece that ends normally. -/
theorem Runs.then {P : Program} {m : Machine} {b : Frame} {k k1 : List Item} {cs : List Frame} {γ : Nat → G} {base : Bs} {w0 : World} {n : Nat} {rc : Bool} {e : Ex} {fr1 fr' : Fr} {H1 H' : AH} (r : Runs P m b k1 cs γ base w0 n rc .normal fr1 H1)
    (h : ∀ (γ1 : Nat → G) (a1 : Act) (w1 : World) (cs1 : List Frame), HRel γ1 base w0 H1 w1 → FrRel γ1 H1.next fr1 a1 → Rc γ1 H1.next b.kind cs1 fr1.pk → RO γ1 H1.next fr1.rnd b.roundOf → Runs P (lone (b.atR a1 k1) cs1 w1) b k cs1 γ1 base w0 H1.next fr1.rc e fr' H') : Runs P m b k cs γ base w0 n rc e fr' H' := by
  obtain ⟨γ1, a1, w1, cs1, h1, h2, h3, h4, h4r, h5, h6⟩ := r
  exact ((h γ1 a1 w1 cs1 h2 h3 h4 h4r).more h1 h5).after h6
theorem loop_ok {c : Code} {fr fr1 fr' : Fr} {H H1 H' : AH} {e : Ex} (hr : RecOK E rec)
    (hc : ∃ e1, rec (.code c fr H) = some (.out e1 fr1 H1) ∧ ((e1 = .normal ∧ rec (.again c fr1 H1) = some (.out e fr' H')) ∨ (e1 ≠ .normal ∧ e = e1 ∧ fr' = fr1 ∧ H' = H1)))
    {γ : Nat → G} {base : Bs} {w0 w : World} {b : Frame} {a : Act} {k : List Item} {cs : List Frame} (h1 : HRel γ base w0 H w) (h2 : FrRel γ H.next fr a) (h3 : Rc γ H.next b.kind cs fr.pk) (h3r : RO γ H.next fr.rnd b.roundOf) :
    Runs E.P (lone (b.atR a (.code c :: .inLoop c :: k)) cs w) b k cs γ base w0 H.next fr.rc e fr' H' := by
  obtain ⟨e1, hq, hh⟩ := hc
  have r1 := hr _ _ hq γ base w0 w b a (.inLoop c :: k) cs h1 h2 h3 h3r
  rcases hh with ⟨rfl, hag⟩ | ⟨hne, rfl, rfl, rfl⟩
  · exact r1.then fun γ1 a1 w1 cs1 g1 g2 g3 g3r => hr _ _ hag γ1 base w0 w1 b a1 k cs1 g1 g2 g3 g3r
  · exact r1.pass rfl hne
theorem enter_at {P : Program} {f : FuncId} {fn : Func} {c : Code} {args : Array Value} {kd : CallKind} (hf : P.funcs[f]? = some fn) (hb : fn.body = some c) : Frame.enter P f args kd = (bF f kd).atR { tmps := args ++ Array.replicate (fn.ntmps - args.size) undef, defers := [] } [.code c] := by
  simp [Frame.enter, Frame.atR, hf, hb, bF]
  rfl
theorem leave_deferred {P : Program} {fr c : Frame} {cs : List Frame} {w : World} {fn : Func} {v : Value} (hm : fr.mode = .returning) (hd : fr.defers = []) (hk : fr.kind = .deferred) (hf : P.funcs[fr.fn]? = some fn) (hr : (results fn fr.tmps).run P w = .ok v w) :
    step P (lone fr (c :: cs) w) = .next (lone (match c.mode with
        | .panicking ({ recovered := true, .. } :: older) =>
          match older.dropWhile (!·.goexit) with
          | [] => { c with mode := .returning }
          | rest => { c with mode := .panicking rest }
        | _ => c) cs w) :=
  step_lone_go (by simp [stepG, unwind, doReturn, hm, hd, hk, hf, hr]; rfl)
theorem runScope_out {rec : Task → Option TOut} (hr : RecOK E rec) {c r : Code} {fr : Fr} {H : AH} {x : CR} {H2 : AH} {rc : Bool} (h : runScope rec c (rec (.code r fr H)) = some (.fin x H2 rc)) : False := by
  unfold runScope at h
  split at h
  · split at h
    · exact hr _ _ h
    · injection h with h; cases h
  · exact hr _ _ h
theorem inSc_ok (hr : RecOK E rec) (c r : Code) (fr : Fr) (H : AH) (o : TOut) (h : body E drawn rec (.inSc c r fr H) = some o) : TaskOK E (.inSc c r fr H) o := by
  have h' : runScope rec c (rec (.code r fr H)) = some o := h
  cases o with
  | fin x H2 rc => exact (runScope_out hr h').elim
  | out e fr2 H2 => exact fun γ base w0 w b a k cs h1 h2 h3 h3r => scope_ok hr h' (fun o ho => hr _ _ ho) h1 h2 h3 h3r
/-! loops over functions -/
noncomputable def recOf (γ : Nat → G) (L : ALoop) (ts : Array Value) (f : FuncId) : Loop := { state := L.st, pending := L.pend, fn := f, tmps := ts, params := L.ps, assign := L.asg, body := L.bd, defers := (γ L.df).blk }
theorem HRel.loopAt {γ : Nat → G} {base : Bs} {w0 w : World} {H : AH} (h : HRel γ base w0 H w) {l : Nat} {L : ALoop} (hl : l < H.next) (ho : H.obj l = .loop L) :
    ∃ ts f, w.heap[(γ l).blk]? = some (.loop (recOf γ L ts f)) ∧ L.df < H.next ∧ TRel γ H.next L.tm L.nt ts := by
  have hr := h.rel l hl
  rw [ho] at hr
  obtain ⟨ts, f, h1, h2, h3, h4⟩ := hr
  exact ⟨ts, f, h1, h2, h3, h4⟩
theorem HRel.setLoop {γ : Nat → G} {base : Bs} {w0 w : World} {H : AH} (h : HRel γ base w0 H w) {l : Nat} {L : ALoop} (hl : l < H.next) (ho : H.obj l = .loop L) {ts : Array Value} {f : FuncId} (hw : w.heap[(γ l).blk]? = some (.loop (recOf γ L ts f))) (ht : TRel γ H.next L.tm L.nt ts) (hd : L.df < H.next) (s : LoopState) (p : Option Code) :
    HRel γ base w0 (H.setLoop l { L with st := s, pend := p }) (w.putObj (γ l).blk (.loop { recOf γ L ts f with state := s, pending := p })) := by
  have hlt : (γ l).blk < w.heap.size := (Array.getElem?_eq_some_iff.1 hw).1
  exact h.setOb hl ho rfl _ (fun B q => by cases q) _ ⟨ts, f, by simp [hlt, recOf], hd, ht.1, ht.2⟩
theorem putAll_rel {γ : Nat → G} {n nt : Nat} : ∀ (ps : List Tmp) (args args' : List Value) (tm : F Value) (ts : Array Value), TRel γ n tm nt ts → LRel γ n args args' → TRel γ n (putAll nt ps args tm) nt ((ps.zip args').foldl (fun ts (x : Tmp × Value) => ts.setIfInBounds x.1 x.2) ts) := by
  intro ps
  induction ps with
  | nil => intro args args' tm ts ht hl; exact ht
  | cons t ps ih =>
    intro args args' tm ts ht hl
    match args, args', hl with
    | [], args', hl => rw [hl.inv_nil]; exact ht
    | v :: args, args', hl =>
      obtain ⟨v', r, rfl, h1, h2⟩ := hl.inv_cons
      refine ih args r _ _ ?_ h2
      have := (FrRel.put (fr := ⟨tm, nt, [], none, false, none⟩) (a := ⟨ts, []⟩) ⟨ht, .nil⟩ (some t) h1).tm
      unfold Fr.put at this
      simp only at this
      cases hb : Nat.blt t nt with
      | true => rw [hb] at this; exact this
      | false => rw [hb] at this; exact this
theorem newOb_ok {γ : Nat → G} {base : Bs} {w0 w : World} {H : AH} (h : HRel γ base w0 H w) (o : AObj) (ob : Obj) (hc : ∀ B, o ≠ .cells B) (ho : ORel (upd γ H.next ⟨w.heap.size, 0, 0, 0, 0⟩) (H.next + 1) H.next (w.alloc ob) o) :
    HRel (upd γ H.next ⟨w.heap.size, 0, 0, 0, 0⟩) base w0 (newOb H o) (w.alloc ob) :=
  h.alloc o ob _ rfl _ _ (fun x => by simp) ho (fun B q => absurd q (hc B))
theorem openLoop_ok {P : Program} {γ : Nat → G} {base : Bs} {w0 w : World} {H H1 : AH} {fr fr1 : Fr} {l : Nat} {ps : Array Tmp} {x y : Code} (h : openLoop fr H ps x y = some (l, fr1, H1)) (hR : HRel γ base w0 H w) {a : Act} (hF : FrRel γ H.next fr a) {b : Frame} (hQ : RO γ H.next fr.rnd b.roundOf) :
    ∃ γ1 w1 mark, Ext γ H.next γ1 H1.next ∧ HRel γ1 base w0 H1 w1 ∧ (Instr.enterLoop b.fn a.tmps ps x y b.roundOf).run P w = .ok ((γ1 l).blk, mark) w1 ∧ l < H1.next ∧ FrRel γ1 H1.next fr1 { a with defers := mark ++ a.defers } ∧ fr1.rnd = fr.rnd ∧ fr1.pk = fr.pk ∧ fr1.rc = fr.rc := by
  unfold openLoop at h
  split at h
  · rename_i hrn
    rw [hrn] at hQ
    have hro : b.roundOf = none := hQ
    injection h with h; injection h with e1 e2; injection e2 with e2 e3; subst e1 e2 e3
    have hA := newOb_ok hR .dfr (.deferred (some [])) (fun B q => by cases q) (by show _ = _; rw [upd_at]; exact World.alloc_heap_new w _)
    have hx1 := upd_ext γ H.next ⟨w.heap.size, 0, 0, 0, 0⟩
    have hx2 := upd_ext (upd γ H.next ⟨w.heap.size, 0, 0, 0, 0⟩) (H.next + 1) ⟨(w.alloc (.deferred (some []))).heap.size, 0, 0, 0, 0⟩
    have hF2 := (hF.ext hx1).ext hx2
    have hB := newOb_ok hA (.loop ⟨.ready, none, fr.tm, fr.nt, ps, x, y, H.next⟩) (.loop { state := .ready, pending := none, fn := b.fn, tmps := a.tmps, params := ps, assign := x, body := y, defers := w.heap.size }) (fun B q => by cases q)
      ⟨a.tmps, b.fn, by
        rw [show (newOb H .dfr).next = H.next + 1 from rfl, upd_at, upd_lt (b := H.next) _ _ _ (Nat.lt_succ_self _), upd_at]
        exact World.alloc_heap_new _ _, Nat.lt_succ_of_lt (Nat.lt_succ_self H.next), hF2.tm.1, hF2.tm.2⟩
    refine ⟨_, _, [{ target := .collected w.heap.size, args := #[] }], hx1.trans hx2, hB, ?_, by show H.next + 1 < H.next + 1 + 1; omega, ⟨hF2.tm, .cons _ _ _ _ ⟨?_, by show H.next < H.next + 1 + 1; omega⟩ hF2.df⟩, rfl, rfl, rfl⟩
    · rw [hro, run_enterLoop_outer, upd_at]
      simp
    · rw [upd_lt _ _ _ (by omega), upd_at]
  · rename_i l0 hrn
    rw [hrn] at hQ
    obtain ⟨hl0, hro⟩ := hQ
    split at h
    case h_2 => cases h
    rename_i L0 ho
    injection h with h; injection h with e1 e2; injection e2 with e2 e3; subst e1 e2 e3
    obtain ⟨ts, f, k1, k2, k3⟩ := hR.loopAt hl0 ho
    have hx1 := upd_ext γ H.next ⟨w.heap.size, 0, 0, 0, 0⟩
    have hF2 := hF.ext hx1
    have hB := newOb_ok hR (.loop ⟨.ready, none, fr.tm, fr.nt, ps, x, y, L0.df⟩) (.loop { state := .ready, pending := none, fn := b.fn, tmps := a.tmps, params := ps, assign := x, body := y, defers := (γ L0.df).blk }) (fun B q => by cases q)
      ⟨a.tmps, b.fn, by
        rw [upd_at, upd_lt _ _ _ k2]
        exact World.alloc_heap_new _ _, by show L0.df < H.next + 1; omega, hF2.tm.1, hF2.tm.2⟩
    refine ⟨_, _, [], hx1, hB, ?_, by show H.next < H.next + 1; omega, hF2, rfl, rfl, rfl⟩
    rw [hro]
    unfold Instr.enterLoop
    simp only [Sem.run_bind, run_getLoop k1, run_newObj_alloc, Result.andThen, Sem.run_pure]
    rw [upd_at]
    rfl
theorem runRange_out {f : Operand} {ps : Array Tmp} {x y : Code} {fr : Fr} {H : AH} {r : CR} {H2 : AH} {rc : Bool} (h : body E drawn rec (.code (.rangeFunc f ps x y) fr H) = some (.fin r H2 rc)) : False := by
  have h' : runRange E rec f ps x y fr H = some (.fin r H2 rc) := h
  have hcl : ∀ (l : Nat) (fr1 : Fr) (H1 : AH), closeLoop l fr1 H1 ≠ some (.fin r H2 rc) := by
    intro l fr1 H1 q
    unfold closeLoop at q
    split at q
    case h_2 => cases q
    split at q
    · cases q
    · split at q <;> first | (injection q with q; cases q) | cases q
  unfold runRange at h'
  split at h'
  case h_2 => cases h'
  split at h'
  case h_2 => cases h'
  split at h'
  case h_2 => cases h'
  split at h'
  · exact hcl _ _ _ h'
  · injection h' with h'; cases h'
  · cases h'
theorem runRange_ok (hE : E.OK) (hr : RecOK E rec) {f : Operand} {ps : Array Tmp} {x y : Code} {fr fr' : Fr} {H H' : AH} {e : Ex} (h : body E drawn rec (.code (.rangeFunc f ps x y) fr H) = some (.out e fr' H'))
    {γ : Nat → G} {base : Bs} {w0 w : World} {b : Frame} {a : Act} {k : List Item} {cs : List Frame} (h1 : HRel γ base w0 H w) (h2 : FrRel γ H.next fr a) (h3 : Rc γ H.next b.kind cs fr.pk) (h3r : RO γ H.next fr.rnd b.roundOf) :
    Runs E.P (lone (b.atR a (.code (.rangeFunc f ps x y) :: k)) cs w) b k cs γ base w0 H.next fr.rc e fr' H' := by
  have h' : runRange E rec f ps x y fr H = some (.out e fr' H') := h
  unfold runRange at h'
  split at h'
  case h_2 => cases h'
  rename_i g A B hv
  split at h'
  case h_2 => cases h'
  rename_i l fr1 H1 hop
  split at h'
  case h_2 => cases h'
  rename_i an han
  have hval := evF_ok h1 h2.tm f _ hv
  obtain ⟨a2, b2, e3, la, lb⟩ : ∃ a2 b2, a.eval f = .func (.func g) ⟨a2⟩ ⟨b2⟩ ∧ LRel γ H.next A a2 ∧ LRel γ H.next B b2 := by
    cases hv' : a.eval f with
    | func f2 A2 B2 =>
      rw [hv'] at hval
      cases hval with
      | fn _ _ _ _ a2 b2 q1 q2 q3 q4 q5 => cases q1; exact ⟨a2, b2, rfl, ⟨q2, q3⟩, ⟨q4, q5⟩⟩
    | _ => rw [hv'] at hval; cases hval
  obtain ⟨γ1, w1, mark, x1, x2, x3, x4, x5, x6, x7, x8⟩ := openLoop_ok (P := E.P) hop h1 h2 h3r
  have hy : LRel γ1 H1.next [.func (.yield l) ⟨[]⟩ ⟨[]⟩] [.func (.yield (γ1 l).blk) ⟨[]⟩ ⟨[]⟩] := LRel.cons (.fn _ _ _ _ _ _ (.yield l x4) rfl (fun i x y hx => by simp at hx) rfl (fun i x y hx => by simp at hx)) .nil
  have hll := ((la.ext x1).append hy).append (lb.ext x1)
  have hAN := aEnter_ok (base := base) (w0 := w0) (w := w1) (γ := γ1) (n := an.1) (H' := an.2) hE hll han
  have hrun : (callFunc g ⟨a2 ++ [.func (.yield (γ1 l).blk) ⟨[]⟩ ⟨[]⟩] ++ b2⟩ : Sem Next).run E.P w1 = .ok (.enter g ⟨a2 ++ [.func (.yield (γ1 l).blk) ⟨[]⟩ ⟨[]⟩] ++ b2⟩) w1 := by
    unfold aEnter at han
    split at han
    case h_2 => cases han
    rename_i fn2 hfn2
    split at han
    case h_2 => cases han
    rename_i cc hcc
    have hf2 := hE.fn _ _ hfn2
    have hn : ¬ (fn2.name = "runtime.NumGoroutine") := by have := hE.name _ _ hf2; simpa using this
    simp [callFunc, hf2, hn, hcc]
  have hres : (resolve a.eval (rangeCall f (γ1 l).blk) 0).run E.P w1 = .ok { target := .fn (.func g) ⟨b2⟩, args := ⟨a2 ++ [.func (.yield (γ1 l).blk) ⟨[]⟩ ⟨[]⟩]⟩ } w1 := by
    have a1 : (rangeCall f (γ1 l).blk).args.map a.eval = #[.func (.yield (γ1 l).blk) #[] #[]] := Array.ext' (by simp [Act.eval])
    have hr0 : resolve a.eval (rangeCall f (γ1 l).blk) 0 = Deferred.ofValue (a.eval f) ((rangeCall f (γ1 l).blk).args.map a.eval) := rfl
    rw [a1] at hr0
    rw [hr0, e3]
    show (pure { target := .fn (.func g) ⟨b2⟩, args := (⟨a2⟩ : Array Value) ++ #[.func (.yield (γ1 l).blk) #[] #[]] } : Sem Deferred).run E.P w1 = _
    simp
  have hinv : (invoke (.fn (.func g) ⟨b2⟩) ⟨a2 ++ [.func (.yield (γ1 l).blk) ⟨[]⟩ ⟨[]⟩]⟩).run E.P w1 = .ok (.enter g ⟨a2 ++ [.func (.yield (γ1 l).blk) ⟨[]⟩ ⟨[]⟩] ++ b2⟩) w1 := by
    have he : (invoke (.fn (.func g) ⟨b2⟩) ⟨a2 ++ [.func (.yield (γ1 l).blk) ⟨[]⟩ ⟨[]⟩]⟩ : Sem Next) = callFunc g ⟨a2 ++ [.func (.yield (γ1 l).blk) ⟨[]⟩ ⟨[]⟩] ++ b2⟩ := by
      show callFunc g ((⟨a2 ++ [.func (.yield (γ1 l).blk) ⟨[]⟩ ⟨[]⟩]⟩ : Array Value) ++ (⟨b2⟩ : Array Value)) = _
      congr 1
      apply Array.ext'
      simp
    rw [he]; exact hrun
  have hst := stepR_rangeFunc (P := E.P) (b := b) (a := a) (k := k) (cs := cs) (w := w) x3 hres hinv
  have hP1 : Rc γ1 H1.next b.kind cs fr1.pk := by rw [x7]; exact h3.ext x1
  have hQ1 : RO γ1 H1.next fr1.rnd b.roundOf := by rw [x6]; exact h3r.ext x1
  split at h'
  · rename_i v H2 hq
    obtain ⟨γ2, w2, fr2, cs2, g1, g2, g3, g4, v', g5, g6, g7, g8, g9, g10, fn, g11, g12⟩ := hr _ _ hq γ1 base w0 w1 _ .normal (b.atR { a with defers := mark ++ a.defers } (.inRangeFunc (γ1 l).blk :: k) :: cs) x2 hll (Rc.normal _ _ _)
    have hcs : cs2 = b.atR { a with defers := mark ++ a.defers } (.inRangeFunc (γ1 l).blk :: k) :: cs := by
      rcases g3 with ⟨_, q⟩ | ⟨_, q, _⟩
      · exact q
      · cases q
    subst hcs
    have hl := step_leave_returned (P := E.P) (fr := fr2) (c := b.atR { a with defers := mark ++ a.defers } (.inRangeFunc (γ1 l).blk :: k)) (cs := cs) (w := w2) (v := v') ⟨g6, g7, g8, fn, by rw [g9]; exact g11, g12⟩
    rw [finish_atR_inRangeFunc] at hl
    have hll2 : l < H2.next := Nat.lt_of_lt_of_le x4 g1.1
    unfold closeLoop at h'
    split at h'
    case h_2 => cases h'
    rename_i L ho
    split at h'
    case h_1 => cases h'
    rename_i hbz
    obtain ⟨ts, ff, k1, k2, k3⟩ := g2.loopAt hll2 ho
    rw [← g1.2 l x4] at hl
    have hend := run_endLoop (P := E.P) (l := (γ2 l).blk) k1 (by
      show L.st ≠ .busy
      intro q; rw [q] at hbz; cases hbz)
    have hse := stepR_endRangeFunc (P := E.P) (b := b) (a := { a with defers := mark ++ a.defers }) (k := k) (cs := cs) (w := w2) hend
    have hset := g2.setLoop hll2 ho k1 k3 k2 .exhausted L.pend
    have hs : Steps E.P (lone (b.atR a (.code (.rangeFunc f ps x y) :: k)) cs w) (lone (b.atR { a with defers := mark ++ a.defers } (((recOf γ2 L ts ff).pending.map Item.code).toList ++ k)) cs (w2.putObj (γ2 l).blk (.loop { recOf γ2 L ts ff with state := .exhausted }))) :=
      (Steps.one hst).trans ((by rw [← g1.2 l x4] at g4 ⊢; exact g4 : Steps E.P _ _).trans ((Steps.one hl).trans (.one hse)))
    have hFin := x5.ext g1
    split at h'
    · rename_i hp
      injection h' with h'; injection h' with e1 e2 e3; subst e1 e2 e3
      rw [show (recOf γ2 L ts ff).pending = none from hp] at hs
      exact ⟨γ2, _, _, cs, x1.trans g1, hset, hFin, hP1.ext g1, hQ1.ext g1, by rw [x8]; exact Chg.refl _ _, hs⟩
    · rename_i id hp
      injection h' with h'; injection h' with e1 e2 e3; subst e1 e2 e3
      rw [show (recOf γ2 L ts ff).pending = some (.exit id) from hp] at hs
      exact ⟨γ2, _, _, cs, x1.trans g1, hset, hFin, hP1.ext g1, hQ1.ext g1, by rw [x8]; exact Chg.refl _ _, k, rfl, hs⟩
    · rename_i hp
      injection h' with h'; injection h' with e1 e2 e3; subst e1 e2 e3
      rw [show (recOf γ2 L ts ff).pending = some .ret from hp] at hs
      exact ⟨γ2, _, _, cs, x1.trans g1, hset, hFin, hP1.ext g1, hQ1.ext g1, by rw [x8]; exact Chg.refl _ _, k, hs⟩
    · cases h'
  · rename_i v H2 hq
    obtain ⟨γ2, w2, fr2, cs2, g1, g2, g3, g4, v', g5, g6, g7, g8, g9, fn, g10⟩ := hr _ _ hq γ1 base w0 w1 _ .normal (b.atR { a with defers := mark ++ a.defers } (.inRangeFunc (γ1 l).blk :: k) :: cs) x2 hll (Rc.normal _ _ _)
    have hcs : cs2 = b.atR { a with defers := mark ++ a.defers } (.inRangeFunc (γ1 l).blk :: k) :: cs := by
      rcases g3 with ⟨_, q⟩ | ⟨_, q, _⟩
      · exact q
      · cases q
    subst hcs
    have hl := step_leave_panicked (P := E.P) (fr := fr2) (c := b.atR { a with defers := mark ++ a.defers } (.inRangeFunc (γ1 l).blk :: k)) (cs := cs) (w := w2) (chain := [{ v := v', recovered := false }]) ⟨g6, g7, fn, by rw [g9]; exact g10⟩
    rw [Frame.raise_atR] at hl
    injection h' with h'; injection h' with e1 e2 e3; subst e1 e2 e3
    exact ⟨γ2, _, w2, cs, x1.trans g1, g2, (x5.ext g1).weak, hP1.ext g1, hQ1.ext g1, by rw [x8]; exact Chg.refl _ _, _, v', g5, (Steps.one hst).trans (g4.trans (.one hl))⟩
  · cases h'
theorem code_ok (hE : E.OK) (hr : RecOK E rec) (hd : DrawnOK E drawn) (c : Code) (fr : Fr) (H : AH) (o : TOut) (h : body E drawn rec (.code c fr H) = some o) : TaskOK E (.code c fr H) o := by
  have fin : ∀ (e : Ex) (fr1 : Fr) (H1 : AH), o = .out e fr1 H1 → (∀ (γ : Nat → G) (base : Bs) (w0 w : World) (b : Frame) (a : Act) (k : List Item) (cs : List Frame), HRel γ base w0 H w → FrRel γ H.next fr a → Rc γ H.next b.kind cs fr.pk → RO γ H.next fr.rnd b.roundOf →
      Runs E.P (lone (b.atR a (.code c :: k)) cs w) b k cs γ base w0 H.next fr.rc e fr1 H1) → TaskOK E (.code c fr H) o := fun e fr1 H1 q hh => by subst q; exact hh
  cases c with
  | skip =>
    injection h with h
    exact fin _ _ _ h.symm fun γ base w0 w b a k cs h1 h2 h3 h3r => ⟨γ, a, w, cs, Ext.refl _ _, h1, h2, h3, h3r, Chg.refl _ _, .one stepR_skip⟩
  | label l =>
    injection h with h
    exact fin _ _ _ h.symm fun γ base w0 w b a k cs h1 h2 h3 h3r => ⟨γ, a, w, cs, Ext.refl _ _, h1, h2, h3, h3r, Chg.refl _ _, .one stepR_label⟩
  | exit id =>
    injection h with h
    exact fin _ _ _ h.symm fun γ base w0 w b a k cs h1 h2 h3 h3r => ⟨γ, a, w, cs, Ext.refl _ _, h1, h2, h3, h3r, Chg.refl _ _, k, rfl, Steps.refl _ _⟩
  | ret =>
    injection h with h
    exact fin _ _ _ h.symm fun γ base w0 w b a k cs h1 h2 h3 h3r => ⟨γ, a, w, cs, Ext.refl _ _, h1, h2, h3, h3r, Chg.refl _ _, k, Steps.refl _ _⟩
  | region id ops draw =>
    cases draw with
    | false =>
      have h' : ofOps (evOps E (callOf E rec) ops.toList ops.toList fr H) = some o := h
      unfold ofOps at h'
      split at h'
      case h_2 => cases h'
      rename_i e fr1 H1 hq
      injection h' with h'
      refine fin _ _ _ h'.symm fun γ base w0 w b a k cs h1 h2 h3 h3r => ?_
      have := evOps_ok hE (callOf_ok hE hr) ops ops.toList (List.range' 0 ops.size) fr H e fr1 H1 hq (by have := Idx.range ops ops.size 0 (by omega); simpa using this) γ base w0 w b a k cs h1 h2 h3 h3r
      rw [← List.range_eq_range'] at this
      exact this.after (.one stepR_region)
    | true =>
      have h' : ofOps (drawn (callOf E rec) ops.toList fr H) = some o := h
      unfold ofOps at h'
      split at h'
      case h_2 => cases h'
      rename_i e fr1 H1 hq
      injection h' with h'
      refine fin _ _ _ h'.symm fun γ base w0 w b a k cs h1 h2 h3 h3r => ?_
      exact (hd _ (callOf_ok hE hr) ops fr H e fr1 H1 hq γ base w0 _ b a k cs _ h1.drew h2 h3 h3r).after (.one stepR_region_draw)
  | seq x y =>
    have h' : (match rec (.code x fr H) with
      | some (.out .normal fr H) => rec (.code y fr H)
      | some (.out e fr H) => some (.out e fr H)
      | _ => none) = some o := h
    split at h'
    · rename_i fr1 H1 hq
      cases o with
      | fin r H2 rc => exact (hr _ _ h').elim
      | out e fr2 H2 =>
        exact fin _ _ _ rfl fun γ base w0 w b a k cs h1 h2 h3 h3r => ((hr _ _ hq γ base w0 w b a (.code y :: k) cs h1 h2 h3 h3r).then fun γ1 a1 w1 cs1 g1 g2 g3 g3r => hr _ _ h' γ1 base w0 w1 b a1 k cs1 g1 g2 g3 g3r).after (.one stepR_seq)
    · rename_i e fr1 H1 hne hq
      injection h' with h'
      exact fin _ _ _ h'.symm fun γ base w0 w b a k cs h1 h2 h3 h3r => ((hr _ _ hq γ base w0 w b a (.code y :: k) cs h1 h2 h3 h3r).pass rfl (fun q => hne q)).after (.one stepR_seq)
    · cases h'
  | cond x c1 c2 =>
    have h' : (match evF fr.tm H.g0 x with
      | some (.bool true) => rec (.code c1 fr H)
      | some (.bool false) => rec (.code c2 fr H)
      | _ => none) = some o := h
    split at h'
    · rename_i hx
      cases o with
      | fin r H2 rc => exact (hr _ _ h').elim
      | out e fr2 H2 =>
        refine fin _ _ _ rfl fun γ base w0 w b a k cs h1 h2 h3 h3r => ?_
        have hev := (evF_ok h1 h2.tm x _ hx).bool_inv
        exact (hr _ _ h' γ base w0 w b a k cs h1 h2 h3 h3r).after (.one (stepR_cond hev))
    · rename_i hx
      cases o with
      | fin r H2 rc => exact (hr _ _ h').elim
      | out e fr2 H2 =>
        refine fin _ _ _ rfl fun γ base w0 w b a k cs h1 h2 h3 h3r => ?_
        have hev := (evF_ok h1 h2.tm x _ hx).bool_inv
        exact (hr _ _ h' γ base w0 w b a k cs h1 h2 h3 h3r).after (.one (stepR_cond hev))
    · cases h'
  | block id c =>
    have h' : (match rec (.code c fr H) with
      | some (.out (.exit id') fr H) => match Nat.beq id' id with
        | true => some (.out .normal fr H)
        | false => some (.out (.exit id') fr H)
      | some (.out e fr H) => some (.out e fr H)
      | _ => none) = some o := h
    split at h'
    · rename_i id' fr1 H1 hq
      split at h'
      · rename_i hb
        have hb' := Nat.eq_of_beq_eq_true hb
        subst hb'
        injection h' with h'
        refine fin _ _ _ h'.symm fun γ base w0 w b a k cs h1 h2 h3 h3r => ?_
        obtain ⟨γ1, a1, w1, cs1, g1, g2, g3, g4, g4r, g5, k1, hk, g6⟩ := hr _ _ hq γ base w0 w b a (.inBlock id' :: k) cs h1 h2 h3 h3r
        exact ⟨γ1, a1, w1, cs1, g1, g2, g3, g4, g4r, g5, Steps.trans (.one stepR_block) (Steps.trans g6 (.one (stepR_exit (hk.trans (by simp [exitTo])))))⟩
      · rename_i hb
        have hb' := Nat.ne_of_beq_eq_false hb
        injection h' with h'
        refine fin _ _ _ h'.symm fun γ base w0 w b a k cs h1 h2 h3 h3r => ?_
        obtain ⟨γ1, a1, w1, cs1, g1, g2, g3, g4, g4r, g5, k1, hk, g6⟩ := hr _ _ hq γ base w0 w b a (.inBlock id :: k) cs h1 h2 h3 h3r
        refine ⟨γ1, a1, w1, cs1, g1, g2, g3, g4, g4r, g5, k1, hk.trans ?_, Steps.trans (.one stepR_block) g6⟩
        have : (id == id') = false := by simp; exact fun q => hb' q.symm
        simp [exitTo, this]
    · rename_i e fr1 H1 hne hq
      injection h' with h'
      refine fin _ _ _ h'.symm fun γ base w0 w b a k cs h1 h2 h3 h3r => ?_
      obtain ⟨γ1, a1, w1, cs1, g1, g2, g3, g4, g4r, g5, g6⟩ := hr _ _ hq γ base w0 w b a (.inBlock id :: k) cs h1 h2 h3 h3r
      refine ⟨γ1, a1, w1, cs1, g1, g2, g3, g4, g4r, g5, ?_⟩
      cases e with
      | normal => exact Steps.trans (.one stepR_block) (Steps.trans g6 (.one stepR_inBlock))
      | exit id' => exact (hne id' rfl).elim
      | ret => obtain ⟨t, s⟩ := g6; exact ⟨t, Steps.trans (.one stepR_block) s⟩
      | panic v => obtain ⟨t, v', hv, s⟩ := g6; exact ⟨t, v', hv, Steps.trans (.one stepR_block) s⟩
      | goto l => obtain ⟨k1, hk, s⟩ := g6; exact ⟨k1, hk, Steps.trans (.one stepR_block) s⟩
    · cases h'
  | loop c =>
    have h' : (match rec (.code c fr H) with
      | some (.out .normal fr H) => rec (.again c fr H)
      | some (.out e fr H) => some (.out e fr H)
      | _ => none) = some o := h
    split at h'
    · rename_i fr1 H1 hq
      cases o with
      | fin r H2 rc => exact (hr _ _ h').elim
      | out e fr2 H2 => exact fin _ _ _ rfl fun γ base w0 w b a k cs h1 h2 h3 h3r => (loop_ok hr ⟨_, hq, .inl ⟨rfl, h'⟩⟩ h1 h2 h3 h3r).after (.one stepR_loop)
    · rename_i e fr1 H1 hne hq
      injection h' with h'
      exact fin _ _ _ h'.symm fun γ base w0 w b a k cs h1 h2 h3 h3r => (loop_ok hr ⟨_, hq, .inr ⟨fun q => hne q, rfl, rfl, rfl⟩⟩ h1 h2 h3 h3r).after (.one stepR_loop)
    · cases h'
  | scope c =>
    have h' : runScope rec c (rec (.code c fr H)) = some o := h
    cases o with
    | fin r H2 rc => exact (runScope_out hr h').elim
    | out e fr2 H2 => exact fin _ _ _ rfl fun γ base w0 w b a k cs h1 h2 h3 h3r => (scope_ok hr h' (fun o ho => hr _ _ ho) h1 h2 h3 h3r).after (.one step_scope_)
  | rangeFunc f ps x y =>
    cases o with
    | fin r H2 rc => exact (runRange_out h).elim
    | out e fr2 H2 => exact fin _ _ _ rfl fun γ base w0 w b a k cs h1 h2 h3 h3r => runRange_ok hE hr h h1 h2 h3 h3r
  | goto l =>
    injection h with h
    exact fin _ _ _ h.symm fun γ base w0 w b a k cs h1 h2 h3 h3r => ⟨γ, a, w, cs, Ext.refl _ _, h1, h2, h3, h3r, Chg.refl _ _, k, rfl, Steps.refl _ _⟩
  | refuse why => cases h
theorem again_ok (hr : RecOK E rec) (c : Code) (fr : Fr) (H : AH) (o : TOut) (h : body E drawn rec (.again c fr H) = some o) : TaskOK E (.again c fr H) o := by
  have h' : (match rec (.code c fr H) with
      | some (.out .normal fr H) => rec (.again c fr H)
      | some (.out e fr H) => some (.out e fr H)
      | _ => none) = some o := h
  split at h'
  · rename_i fr1 H1 hq
    cases o with
    | fin r H2 rc => exact (hr _ _ h').elim
    | out e fr2 H2 => exact fun γ base w0 w b a k cs h1 h2 h3 h3r => (loop_ok hr ⟨_, hq, .inl ⟨rfl, h'⟩⟩ h1 h2 h3 h3r).after (.one stepR_inLoop)
  · rename_i e fr1 H1 hne hq
    injection h' with h'
    subst h'
    exact fun γ base w0 w b a k cs h1 h2 h3 h3r => (loop_ok hr ⟨_, hq, .inr ⟨fun q => hne q, rfl, rfl, rfl⟩⟩ h1 h2 h3 h3r).after (.one stepR_inLoop)
  · cases h'
theorem call_ok (hE : E.OK) (hr : RecOK E rec) (f : FuncId) (args : List Value) (H : AH) (pk : Option Value) (o : TOut) (h : body E drawn rec (.call f args H pk) = some o) : TaskOK E (.call f args H pk) o := by
  have h' : (match E.fn f with
    | some fn => match fn.body with
      | some c => match Nat.ble args.length fn.ntmps with
        | true => match rec (.code c ⟨tmOf args 0 .lf, fn.ntmps, [], pk, false, none⟩ H) with
          | some (.out .normal fr H) => rec (.unw none fn fr H)
          | some (.out .ret fr H) => rec (.unw none fn fr H)
          | some (.out (.panic v) fr H) => rec (.unw (some v) fn fr H)
          | _ => none
        | false => none
      | none => none
    | none => none) = some o := h
  split at h'
  case h_2 => cases h'
  rename_i fn hfn
  have hf := hE.fn _ _ hfn
  split at h'
  case h_2 => cases h'
  rename_i c hb
  split at h'
  case h_2 => cases h'
  rename_i hle
  have hle' := Nat.le_of_ble_eq_true hle
  have hall : ∀ (e : Ex) (fr1 : Fr) (H1 : AH) (m : Option Value), rec (.code c ⟨tmOf args 0 .lf, fn.ntmps, [], pk, false, none⟩ H) = some (.out e fr1 H1) → (e = .normal ∧ m = none ∨ e = .ret ∧ m = none ∨ ∃ v, e = .panic v ∧ m = some v) → rec (.unw m fn fr1 H1) = some o → TaskOK E (.call f args H pk) o := by
    intro e fr1 H1 m hq hem hu
    cases o with
    | out e fr2 H2 => exact (hr _ _ hu).elim
    | fin r H2 rc =>
      intro γ base w0 w args' kd cs h1 h2 h3
      have hF : FrRel γ H.next ⟨tmOf args 0 .lf, fn.ntmps, [], pk, false, none⟩ { tmps := (⟨args'⟩ : Array Value) ++ Array.replicate (fn.ntmps - (⟨args'⟩ : Array Value).size) undef, defers := [] } := ⟨enter_rel h2 fn.ntmps hle', .nil⟩
      obtain ⟨γ1, a1, w1, cs1, g1, g2, g3, g4, g4r, g5, g6⟩ := hr _ _ hq γ base w0 w (bF f kd) _ [] cs h1 hF h3 rfl
      rw [← enter_at (kd := kd) hf hb] at g6
      obtain ⟨todo, mode, hs, hmode⟩ : ∃ todo mode, Steps E.P (lone (Frame.enter E.P f ⟨args'⟩ kd) cs w) (lone { (bF f kd).atR a1 todo with mode := mode } cs1 w1) ∧ ModeOK γ1 H1.next m mode := by
        rcases hem with ⟨rfl, rfl⟩ | ⟨rfl, rfl⟩ | ⟨v, rfl, rfl⟩
        · exact ⟨[], .returning, Steps.trans g6 (.one (stepR_end rfl)), rfl⟩
        · obtain ⟨t, s⟩ := g6; exact ⟨_, .returning, Steps.trans s (.one (stepR_ret rfl)), rfl⟩
        · obtain ⟨t, v', hv, s⟩ := g6; exact ⟨t, _, s, v', hv, rfl⟩
      obtain ⟨γ2, w2, fr2, k1, k2, k3, k4, k5⟩ := hr _ _ hu γ1 base w0 w1 (bF f kd) a1 todo cs1 mode g2 (FrX.weak g3) hf rfl hmode
      exact ⟨γ2, w2, fr2, cs1, g1.trans k1, k2, by rw [k3]; exact g5, hs.trans k4, k5⟩
  split at h'
  · rename_i fr1 H1 hq; exact hall _ _ _ _ hq (.inl ⟨rfl, rfl⟩) h'
  · rename_i fr1 H1 hq; exact hall _ _ _ _ hq (.inr (.inl ⟨rfl, rfl⟩)) h'
  · rename_i v fr1 H1 hq; exact hall _ _ _ _ hq (.inr (.inr ⟨v, rfl, rfl⟩)) h'
  · cases h'
theorem unw_ok (hE : E.OK) (hr : RecOK E rec) (m : Option Value) (fn : Func) (fr : Fr) (H : AH) (o : TOut) (h : body E drawn rec (.unw m fn fr H) = some o) : TaskOK E (.unw m fn fr H) o := by
  cases hdf : fr.df with
  | nil =>
    have h' : (match (generalizing := false) m with
      | some v => some (.fin (.pan v) H fr.rc)
      | none => match aRes E fr.tm H fn.results.toList with
        | some vs => some (.fin (.ret (resOf vs)) H fr.rc)
        | none => none) = some o := by have q : unwD E rec m fn fr H fr.df = some o := h; rw [hdf] at q; exact q
    split at h'
    · rename_i v
      injection h' with h'
      subst h'
      intro γ base w0 w b a todo cs mode h1 h2 h3 h4 h5
      obtain ⟨v', hv, rfl⟩ := h5
      have hdd : a.defers = [] := by have := h2.df; rw [hdf] at this; cases hx : a.defers with
        | nil => rfl
        | cons x y => rw [hx] at this; cases this
      exact ⟨γ, w, _, Ext.refl _ _, h1, rfl, Steps.refl _ _, v', hv, rfl, hdd, rfl, rfl, fn, h3⟩
    · split at h'
      case h_2 => cases h'
      rename_i vs hvs
      injection h' with h'
      subst h'
      intro γ base w0 w b a todo cs mode h1 h2 h3 h4 h5
      have h5' : mode = .returning := h5
      subst h5'
      have hdd : a.defers = [] := by have := h2.df; rw [hdf] at this; cases hx : a.defers with
        | nil => rfl
        | cons x y => rw [hx] at this; cases this
      obtain ⟨v', k1, k2⟩ := results_ok hE h1 h2.tm hvs
      exact ⟨γ, w, _, Ext.refl _ _, h1, rfl, Steps.refl _ _, v', k2, rfl, hdd, rfl, rfl, h4, fn, h3, k1⟩
  | cons d ds =>
    cases d with
    | mark g =>
      have h' : (match H.obj g with
        | .dfr => rec (.unw m fn { fr with df := ds } (H.drop1 g))
        | _ => none) = some o := by have q : unwD E rec m fn fr H fr.df = some o := h; rw [hdf] at q; exact q
      split at h'
      case h_2 => cases h'
      rename_i hob
      cases o with
      | out e fr2 H2 => exact (hr _ _ h').elim
      | fin r2 H2 rc2 =>
        intro γ base w0 w b a todo cs mode h1 h2 h3 h4 h5
        have hdfr := h2.df
        rw [hdf] at hdfr
        obtain ⟨ds', had, hlt, hds⟩ : ∃ ds', a.defers = { target := .collected (γ g).blk, args := #[] } :: ds' ∧ g < H.next ∧ DsRel γ H.next ds ds' := by
          cases hx : a.defers with
          | nil => rw [hx] at hdfr; cases hdfr
          | cons x y => rw [hx] at hdfr; cases hdfr with | cons _ _ _ _ q1 q2 => exact ⟨y, by rw [q1.1], q1.2, q2⟩
        have hw : w.heap[(γ g).blk]? = some (.deferred (some [])) := by have q := h1.rel g hlt; rw [hob] at q; exact q
        have hmr : mode ≠ .run := by
          cases m with
          | none => have h5' : mode = .returning := h5; rw [h5']; exact fun q => by cases q
          | some v => obtain ⟨v', _, q⟩ := h5; rw [q]; exact fun q => by cases q
        have hst : step E.P (lone { b.atR a todo with mode := mode } cs w) = .next (lone { b.atR { tmps := a.tmps, defers := ds' } todo with mode := mode } cs (w.putObj (γ g).blk (.deferred none))) := by
          refine step_lone_go ?_
          have ht := run_takeDeferred (P := E.P) hw
          cases mode with
          | run => exact absurd rfl hmr
          | returning => simp [stepG, unwind, Frame.atR, had, Sem.runT_eq, ht, GStep.bare_after]
          | panicking ch => simp [stepG, unwind, Frame.atR, had, Sem.runT_eq, ht, GStep.bare_after]
        have hset : HRel γ base w0 (H.drop1 g) (w.putObj (γ g).blk (.deferred none)) := h1.setOb hlt hob rfl .gone (fun B q => by cases q) (.deferred none) trivial
        obtain ⟨γ2, w2, fr2, k1, k2, k3, k4, k5⟩ := hr _ _ h' γ base w0 _ b { tmps := a.tmps, defers := ds' } todo cs mode hset ⟨h2.tm, hds⟩ h3 h4 h5
        exact ⟨γ2, w2, fr2, k1, k2, k3, (Steps.one hst).trans k4, k5⟩
    | call f ar ca =>
    have h' : (match aEnter E f (ar ++ ca) H with
     | none => none
     | some _ => match rec (.call f (ar ++ ca) H m) with
      | some (.fin (.ret _) H rc) => match rc with
        | true => rec (.unw none fn { fr with df := ds } H)
        | false => rec (.unw m fn { fr with df := ds } H)
      | some (.fin (.pan v) H rc) => match (generalizing := false) m with
        | none => rec (.unw (some v) fn { fr with df := ds } H)
        | some _ => none
      | _ => none) = some o := by have q : unwD E rec m fn fr H fr.df = some o := h; rw [hdf] at q; exact q
    split at h'
    case h_1 => cases h'
    rename_i an han
    -- the deferred call
    have go : ∀ (r : CR) (H1 : AH) (rc : Bool) (m2 : Option Value), rec (.call f (ar ++ ca) H m) = some (.fin r H1 rc) → rec (.unw m2 fn { fr with df := ds } H1) = some o →
        ((∃ v, r = .ret v ∧ ((rc = true ∧ m2 = none) ∨ (rc = false ∧ m2 = m))) ∨ (∃ v, r = .pan v ∧ m = none ∧ m2 = some v)) → TaskOK E (.unw m fn fr H) o := by
      intro r H1 rc m2 hq hu hcase
      cases o with
      | out e fr2 H2 => exact (hr _ _ hu).elim
      | fin r2 H2 rc2 =>
        intro γ base w0 w b a todo cs mode h1 h2 h3 h4 h5
        have hdfr := h2.df
        rw [hdf] at hdfr
        obtain ⟨d', ds', had, ⟨a', c', rfl, la, lc⟩, hds⟩ : ∃ d' ds', a.defers = d' :: ds' ∧ (∃ a' c', d' = { target := .fn (.func f) ⟨c'⟩, args := ⟨a'⟩ } ∧ LRel γ H.next ar a' ∧ LRel γ H.next ca c') ∧ DsRel γ H.next ds ds' := by
          cases hx : a.defers with
          | nil => rw [hx] at hdfr; cases hdfr
          | cons x y => rw [hx] at hdfr; cases hdfr with | cons _ _ _ _ q1 q2 => exact ⟨x, y, rfl, q1, q2⟩
        have hle := la.append lc
        have hAN := aEnter_ok (base := base) (w0 := w0) (w := w) (γ := γ) (n := an.1) (H' := an.2) hE hle han
        have hrun : (invoke (.fn (.func f) ⟨c'⟩) ⟨a'⟩).run E.P w = .ok (.enter f ⟨a' ++ c'⟩) w := by
          have he : (invoke (.fn (.func f) ⟨c'⟩) ⟨a'⟩ : Sem Next) = callFunc f ⟨a' ++ c'⟩ := by
            show callFunc f ((⟨a'⟩ : Array Value) ++ (⟨c'⟩ : Array Value)) = _
            congr 1
            apply Array.ext'
            simp
          rw [he]
          unfold aEnter at han
          split at han
          case h_2 => cases han
          rename_i fn2 hfn2
          split at han
          case h_2 => cases han
          rename_i cc hcc
          have hf2 := hE.fn _ _ hfn2
          have hn : ¬ (fn2.name = "runtime.NumGoroutine") := by have := hE.name _ _ hf2; simpa using this
          simp [callFunc, hf2, hn, hcc]
        have hmr : mode ≠ .run := by
          cases m with
          | none => have h5' : mode = .returning := h5; rw [h5']; exact fun q => by cases q
          | some v => obtain ⟨v', _, q⟩ := h5; rw [q]; exact fun q => by cases q
        have hst := unw_step (P := E.P) (fr := { b.atR a todo with mode := mode }) (cs := cs) (w := w) (d := { target := .fn (.func f) ⟨c'⟩, args := ⟨a'⟩ }) (ds := ds') (f := f) (args := ⟨a' ++ c'⟩) had hmr (fun r q => by cases q) (by simp) hrun
        have hRc : Rc γ H.next .deferred ({ b.atR { tmps := a.tmps, defers := ds' } todo with mode := mode } :: cs) m := by
          cases m with
          | none =>
            have h5' : mode = .returning := h5
            subst h5'
            intro fr0 hk0
            unfold tryRecover
            rw [hk0]
          | some v =>
            obtain ⟨v', hv, rfl⟩ := h5
            exact ⟨rfl, _, cs, v', [], rfl, rfl, hv⟩
        obtain ⟨γ1, w1, fr1, cs1, g1, g2, g3, g4, g5⟩ := hr _ _ hq γ base w0 w (a' ++ c') .deferred _ h1 hle hRc
        have hF2 : FrRelW γ1 H1.next { fr with df := ds } { tmps := a.tmps, defers := ds' } := ⟨fun i hi => (h2.tm i hi).ext g1, hds.ext g1⟩
        have hfin : ∀ mode2, Steps E.P (lone fr1 cs1 w1) (lone { b.atR { tmps := a.tmps, defers := ds' } todo with mode := mode2 } cs w1) → ModeOK γ1 H1.next m2 mode2 → ∃ γ' w' fr', Ext γ H.next γ' H2.next ∧ HRel γ' base w0 H2 w' ∧ rc2 = fr.rc ∧ Steps E.P (lone { b.atR a todo with mode := mode } cs w) (lone fr' cs w') ∧ Left E.P b.fn b.kind fr' w' γ' H2.next r2 := by
          intro mode2 hs2 hm2
          obtain ⟨γ2, w2, fr2, k1, k2, k3, k4, k5⟩ := hr _ _ hu γ1 base w0 w1 b { tmps := a.tmps, defers := ds' } todo cs mode2 g2 hF2 h3 h4 hm2
          exact ⟨γ2, w2, fr2, g1.trans k1, k2, k3, (Steps.one hst).trans (g4.trans (hs2.trans k4)), k5⟩
        rcases hcase with ⟨v, rfl, hrm⟩ | ⟨v, rfl, rfl, rfl⟩
        · obtain ⟨v', q1, q2, q3, q4, q5, q6, fn2, q7, q8⟩ := g5
          rcases hrm with ⟨rfl, rfl⟩ | ⟨rfl, rfl⟩
          · rcases g3 with ⟨q, _⟩ | ⟨_, _, c, r, v2, older, e1, e2, e3⟩
            · cases q
            · injection e1 with e1 e4
              subst e1 e4 e3
              have hl := leave_deferred (P := E.P) (c := { { b.atR { tmps := a.tmps, defers := ds' } todo with mode := mode } with mode := .panicking ({ v := v2, recovered := true } :: older) }) (cs := cs) (w := w1) q2 q3 q4 (by rw [q5]; exact q7) q8
              have hold : older = [] := by
                have e2' : mode = .panicking ({ v := v2, recovered := false } :: older) := e2
                cases m with
                | none => have h5' : mode = .returning := h5; rw [h5'] at e2'; cases e2'
                | some u => obtain ⟨u', _, q⟩ := h5; rw [q] at e2'; injection e2' with e2'; injection e2' with _ e2'; exact e2'.symm
              subst hold
              exact hfin .returning (.one hl) rfl
          · rcases g3 with ⟨_, e1⟩ | ⟨_, q, _⟩
            · subst e1
              have hl := leave_deferred (P := E.P) (c := { b.atR { tmps := a.tmps, defers := ds' } todo with mode := mode }) (cs := cs) (w := w1) q2 q3 q4 (by rw [q5]; exact q7) q8
              refine hfin mode (.one ?_) ?_
              · rw [hl]
                cases m2 with
                | none => have h5' : mode = .returning := h5; subst h5'; rfl
                | some u => obtain ⟨u', _, rfl⟩ := h5; rfl
              · cases m2 with
                | none => exact h5
                | some u => obtain ⟨u', hu', q⟩ := h5; exact ⟨u', hu'.ext g1, q⟩
            · cases q
        · obtain ⟨v', q1, q2, q3, q4, q5, fn2, q6⟩ := g5
          have h5' : mode = .returning := h5
          subst h5'
          have hcs : cs1 = { b.atR { tmps := a.tmps, defers := ds' } todo with mode := .returning } :: cs := by
            rcases g3 with ⟨_, e1⟩ | ⟨_, _, c, r, v2, older, e1, e2, _⟩
            · exact e1
            · injection e1 with e1 e4; subst e1; cases e2
          subst hcs
          have hl := step_leave_panicked (P := E.P) (fr := fr1) (c := { b.atR { tmps := a.tmps, defers := ds' } todo with mode := .returning }) (cs := cs) (w := w1) (chain := [{ v := v', recovered := false }]) ⟨q2, q3, fn2, by rw [q5]; exact q6⟩
          exact hfin (.panicking [{ v := v', recovered := false }]) (.one hl) ⟨v', q1, rfl⟩
    split at h'
    · rename_i v H1 rc hq
      split at h'
      · exact go _ _ _ _ hq h' (.inl ⟨v, rfl, .inl ⟨rfl, rfl⟩⟩)
      · exact go _ _ _ _ hq h' (.inl ⟨v, rfl, .inr ⟨rfl, rfl⟩⟩)
    · rename_i v H1 rc hq
      split at h'
      · exact go _ _ _ _ hq h' (.inr ⟨v, rfl, rfl, rfl⟩)
      · cases h'
    · cases h'
theorem round_ok (hr : RecOK E rec) (l : Nat) (args : List Value) (H : AH) (o : TOut) (h : body E drawn rec (.round l args H) = some o) : TaskOK E (.round l args H) o := by
  have h' : runRnd rec l args H = some o := h
  unfold runRnd at h'
  split at h'
  case h_2 => cases h'
  rename_i L ho
  split at h'
  case h_2 => cases h'
  rename_i hlen
  have hlen' := Nat.eq_of_beq_eq_true hlen
  split at h'
  case h_2 => cases h'
  rename_i fr1 H1 hq1
  split at h'
  case h_2 => cases h'
  rename_i L1 hrc1 ho1
  split at h'
  case h_2 => cases h'
  rename_i hrdy
  have hst1 : L1.st = .ready := by
    cases hs : L1.st <;> first | rfl | (rw [hs] at hrdy; cases hrdy)
  split at h'
  case h_2 => cases h'
  rename_i e fr2 H2 hq2
  -- what the ends share
  have key : ∀ (jump : Option Code), fr2.rc = false → endRnd l jump H2 = some o → ((e = .normal ∧ jump = none) ∨ (∃ id, e = .exit id ∧ jump = some (.exit id)) ∨ (e = .ret ∧ jump = some .ret)) → TaskOK E (.round l args H) o := by
    intro jump hrc2 hend hcase
    unfold endRnd at hend
    split at hend
    case h_2 => cases hend
    rename_i L3 ho3
    obtain ⟨v, H4, ho4, hv, hH4⟩ : ∃ v H4, o = .fin (.ret v) H4 false ∧ v = .bool jump.isNone ∧ H4 = H2.setLoop l { L3 with st := if jump.isNone then .ready else .done, pend := jump } := by
      cases jump with
      | none => injection hend with hend; exact ⟨_, _, hend.symm, rfl, rfl⟩
      | some c => injection hend with hend; exact ⟨_, _, hend.symm, rfl, rfl⟩
    subst ho4 hv hH4
    refine ⟨rfl, fun γ base w0 w args' hR hL hl => ?_⟩
    obtain ⟨ts, f, k1, k2, k3⟩ := hR.loopAt hl ho
    have hsz : (⟨args'⟩ : Array Value).size = (recOf γ L ts f).params.size := by
      show args'.length = L.ps.size
      rw [← hlen']; exact hL.len
    have hy := run_yield (P := E.P) k1 hsz
    refine ⟨_, _, _, _, hy, fun c cs => ?_⟩
    have hF0 : FrRel γ H.next ⟨putAll L.nt L.ps.toList args L.tm, L.nt, [], none, false, some l⟩ { tmps := ((recOf γ L ts f).params.zip ⟨args'⟩).foldl (fun tmps (t, a) => tmps.setIfInBounds t a) (recOf γ L ts f).tmps, defers := [] } := by
      refine ⟨?_, .nil⟩
      have := putAll_rel L.ps.toList args args' L.tm ts k3 hL
      have he : ((recOf γ L ts f).params.zip ⟨args'⟩).foldl (fun (tmps : Array Value) (x : Tmp × Value) => tmps.setIfInBounds x.1 x.2) (recOf γ L ts f).tmps = (L.ps.toList.zip args').foldl (fun (ts : Array Value) (x : Tmp × Value) => ts.setIfInBounds x.1 x.2) ts := by
        rw [← Array.foldl_toList]
        show ((L.ps.zip ⟨args'⟩).toList).foldl _ ts = _
        rw [Array.toList_zip]
      show TRel γ H.next _ L.nt (((recOf γ L ts f).params.zip ⟨args'⟩).foldl (fun (tmps : Array Value) (x : Tmp × Value) => tmps.setIfInBounds x.1 x.2) (recOf γ L ts f).tmps)
      rw [he]
      exact this
    generalize ((recOf γ L ts f).params.zip ⟨args'⟩).foldl (fun tmps (t, a) => tmps.setIfInBounds t a) (recOf γ L ts f).tmps = ts0 at hF0
    let b : Frame := { (default : Frame) with fn := f, kind := .normal, roundOf := some (γ l).blk }
    have hb0 : Frame.round (γ l).blk f ts0 L.asg L.bd .normal = b.atR { tmps := ts0, defers := [] } [.code L.asg, .beginRound, .code L.bd] := by
      simp [Frame.round, Frame.atR, b]
    obtain ⟨γ1, a1, w1, cs1, g1, g2, g3, g4, g4r, g5, g6⟩ := hr _ _ hq1 γ base w0 w b { tmps := ts0, defers := [] } [.beginRound, .code L.bd] (c :: cs) hR hF0 (Rc.normal _ _ _) ⟨hl, rfl⟩
    have hcs1 : cs1 = c :: cs := by
      rcases g5 with ⟨_, q⟩ | ⟨_, q, _⟩
      · exact q
      · rw [hrc1] at q; cases q
    subst hcs1
    have hl1 : l < H1.next := Nat.lt_of_lt_of_le hl g1.1
    have hbk : b.roundOf = some (γ1 l).blk := by rw [g1.2 l hl]
    obtain ⟨ts1, f1, m1, m2, m3⟩ := g2.loopAt hl1 ho1
    have hbeg := run_beginRound (P := E.P) (l := (γ1 l).blk) m1 hst1
    have s1 := stepR_beginRound (P := E.P) (b := b) (a := a1) (k := [.code L.bd]) (cs := c :: cs) hbk hbeg
    have hset1 := g2.setLoop hl1 ho1 m1 m3 m2 .busy L1.pend
    obtain ⟨γ2, a2, w2, cs2, n1, n2, n3, n4, n4r, n5, n6⟩ := hr _ _ hq2 γ1 base w0 _ b a1 [] (c :: cs) hset1 g3 g4 g4r
    have hcs2 : cs2 = c :: cs := by
      rcases n5 with ⟨_, q⟩ | ⟨_, q, _⟩
      · exact q
      · rw [hrc2] at q; cases q
    subst hcs2
    have hl2 : l < H2.next := Nat.lt_of_lt_of_le hl1 n1.1
    have hbk2 : b.roundOf = some (γ2 l).blk := by rw [n1.2 l hl1]; exact hbk
    obtain ⟨ts2, f2, p1, p2, p3⟩ := n2.loopAt hl2 ho3
    have hen := run_endRound (P := E.P) (l := (γ2 l).blk) jump p1
    have hset2 := n2.setLoop hl2 ho3 p1 p3 p2 (if jump.isNone then .ready else .done) jump
    have hx := Steps.trans g6 (.one s1)
    rw [← hb0] at hx
    refine ⟨γ2, _, g1.trans n1, hset2, _, .bool _, ?_⟩
    rcases hcase with ⟨rfl, rfl⟩ | ⟨id, rfl, rfl⟩ | ⟨rfl, rfl⟩
    · exact hx.trans (Steps.trans n6 (.one (stepR_round_end (P := E.P) (b := b) (c := c) hbk2 rfl hen)))
    · obtain ⟨k1', hk, s⟩ := n6
      exact hx.trans (Steps.trans s (.one (stepR_round_exit (P := E.P) (b := b) (c := c) hbk2 rfl (hk.trans (by simp [exitTo])) hen)))
    · obtain ⟨k1', s⟩ := n6
      exact hx.trans (Steps.trans s (.one (stepR_round_ret (P := E.P) (b := b) (c := c) hbk2 rfl hen)))
  split at h'
  · rename_i hrc2; exact key none hrc2 h' (.inl ⟨rfl, rfl⟩)
  · rename_i id hrc2; exact key _ hrc2 h' (.inr (.inl ⟨id, rfl, rfl⟩))
  · rename_i hrc2; exact key _ hrc2 h' (.inr (.inr ⟨rfl, rfl⟩))
  · cases h'
theorem body_ok (hE : E.OK) (hd : DrawnOK E drawn) (hr : RecOK E rec) : RecOK E (body E drawn rec) := by
  intro t o h
  cases t with
  | code c fr H => exact code_ok hE hr hd c fr H o h
  | again c fr H => exact again_ok hr c fr H o h
  | call f args H pk => exact call_ok hE hr f args H pk o h
  | unw m fn fr H => exact unw_ok hE hr m fn fr H o h
  | round l args H => exact round_ok hr l args H o h
  | inSc c r fr H => exact inSc_ok hr c r fr H o h
theorem ev_ok (hE : E.OK) (hd : DrawnOK E drawn) : ∀ n, RecOK E (ev E drawn n) := by
  intro n
  induction n with
  | zero => intro t o h; cases h
  | succ n ih => exact body_ok hE hd ih
end
end Go.Proofs.YtohgenhjdgdkgaaGreatDoor.Sh
