import Derived.Deep.Upon
import Derived.Lib.EndianMore
import Derived.Lib.SliceRun
import Derived.OwnWalk
import Derived.Deep.DeepCutAuto
import Derived.Test.YtedghbjmhcgilaaKp5
import Derived.Test.YtedghbjmhcgilaaKp6
import Derived.Test.YtedghbjmhcgilaaKp9
import Derived.Test.YtedghbjmhcgilaaKp11
import Derived.Test.YtedghbjmhcgilaaKp13
import Derived.Test.YtedghbjmhcgilaaKp15
import Derived.Test.YtedghbjmhcgilaaKp16
import Derived.Test.YtedghbjmhcgilaaKp20
set_option linter.unusedVariables false
set_option linter.unusedSimpArgs false
section
namespace Go.Proofs.Ytedghbjmhcgilaa.A
open Go.RowKit Go.Shelf Go.Maps Go.Proofs.YtedghbjmhcgilaaW.PrintWords Go.Proofs.YtedghbjmhcgilaaW.PrintLast Go.Proofs.YtedghbjmhcgilaaW.PrintMore
open Go.Proofs.Ytedghbjmhcgilaa.POpt
attribute [local go_sem] Oper.semAt_some
theorem zero37 (w:World):(zeroValue 37).run Try.prog w=.ok (.agg #[.int .i64 0,.int .i64 0]) w:=by kernel_rfl
theorem zeroCells_two (n:Nat):(Builtin.zeroCells #[Value.int .i64 0,.int .i64 0] n).toList=List.replicate (n*2) (.int .i64 0):=by
 simp [Builtin.zeroCells]
 apply List.ext_getElem
 ·simp
 ·intro i h1 h2
  simp
  have:i % 2=0∨i % 2=1:=by omega
  rcases this with h | h <;> simp [h]
theorem run_clear37 (b n c:Nat) (ty:TypeId) (w:World) (hn:0 < n) (hc:∀ j,j < n*2→(w.cell? ⟨b,0+j,none⟩).isSome=true) (hf:∀ j,j < n*2→w.frozen? ⟨b,0+j,none⟩=false) :
  (Builtin.clear_ #[28] ty #[.slice (some ⟨b,0,none⟩) n c]).run Try.prog w=.ok (.tuple #[]) (w.setCells b 0 (List.replicate (n*2) (.int .i64 0))):=by
 have hst:=run_storeCells_cells (P:=Try.prog) b 0 (List.replicate (n*2) (Value.int .i64 0)) 0 w (by simpa using hc) (by simpa using hf) (by intro v hv';rw [List.eq_of_mem_replicate hv'];rfl)
 simp only [Nat.add_zero] at hst
 obtain ⟨m,rfl⟩:∃ m,n=m+1:=⟨n - 1,by omega⟩
 have hz:=zeroCells_two (m+1)
 simp [Builtin.clear_,run_underlying Try.underlying28,zero37,Value.cells,hz,hst]
theorem run_clear37_nil (a:Option Addr) (c:Nat) (ty:TypeId) (w:World):(Builtin.clear_ #[28] ty #[.slice a 0 c]).run Try.prog w=.ok (.tuple #[]) w:=by
 cases a <;> simp [Builtin.clear_,run_underlying Try.underlying28]
theorem clear_rows {W:World} {base:Nat} {ok:Nat→Prop} {A:Option Addr} {n c:Nat} {xs:List S37} (h:k37.R 37 W base ok (.slice A n c) xs) :
  ∃ W',(∀ ty,(Builtin.clear_ #[28] ty #[.slice A n c]).run Try.prog W=.ok (.tuple #[]) W')∧Below base W W'∧∀ k,k < W.heap.size→some k≠(Value.slice A n c).ownBlock→W'.heap[k]?=W.heap[k]?:=by
 by_cases hn:0 < n
 ·obtain ⟨g,cells,hA,hbg,hgl,hok,hh,hnx,_⟩:=R_shape h hn (by show 0 < 2;omega)
  obtain ⟨_,_,hC⟩:=Kd.R_reads' h
  subst hA
  refine ⟨_,fun ty=>run_clear37 g n c ty W hn ?_ ?_,Lib.below_setCells_w hbg _ _ _,fun k h1 h2=>World.heap_setCells_other W g 0 _ h1 (fun e=>h2 (by subst e;rfl))⟩
  ·intro j hj
   obtain ⟨ad,ead,q0,q1⟩:=at_T37 hC ((j / 2:Nat):Int) (by omega) (by omega)
   injection ead with ead
   subst ead
   simp only [Int.toNat_natCast,Addr.add_lit,Nat.zero_add] at q0 q1
   rw [Nat.zero_add]
   have:j=j / 2*2∨j=j / 2*2+1:=by omega
   rcases this with e | e
   ·rw [e,q0];rfl
   ·rw [e,q1];rfl
  ·intro j hj
   exact bk_f hh _
 ·obtain rfl:n=0:=by omega
  exact ⟨W,fun ty=>run_clear37_nil A c ty W,Below.refl _ _,fun _ _ _=>rfl⟩
def trimP (r:List Bool) (l0:List S35) (l1:List S37):List S35 × List S37:=((keptAt l0 (r.map (!·)) l0.length).map (placed (toNow (r.map (!·)) l0.length)),l1.map (placedR (toNow (r.map (!·)) l0.length)))
def trimRows (r:List Bool) (l0:List S35) (l2:List S37):List S37:=if decide (0≤jumpAt (trimP r l0 l2).1)=true then (trimP r l0 l2).2 else []
set_option maxRecDepth 100000 in
set_option maxHeartbeats 2000000 in
theorem Trim_calls (A0:Option Addr) (c0:Nat) (l0:List S35) (A1:Option Addr) (c1:Nat) (l1:List S35) (A2:Option Addr) (c2:Nat) (l2:List S37) (w:World)
  (hr0:Kd.C k35 w A0 l0.length l0) (hc0:l0.length≤c0) (hr1:Kd.C k35 w A1 l1.length l1) (hc1:l1.length≤c1) (hr2:Kd.C k37 w A2 l2.length l2) (hc2:l2.length≤c2)
  (hf:fitB l0 l1 l2=true) (hw0:∀ x ∈ l0,wfS x) (hw1:∀ x ∈ l1,wfS x) (hw2:∀ x ∈ l2,wfI x.f1) (k0 k1:Nat) (r0 r1:List Bool) (hq0:opt_reached.f k0 l0 l2=some r0) (hq0l:r0.length=l0.length) (hq1:opt_reached.f k1 l1 []=some r1) (hq1l:r1.length=l1.length) (hne:¬ (l0.length=0∧l1.length=0)) :
  Calls Try.prog 17 #[.agg #[.slice A0 l0.length c0,.slice A1 l1.length c1,.slice A2 l2.length c2]] w fun e w'=>∃ v0_ v1_ v2_:Value,e=.returned (.agg #[v0_,v1_,v2_])∧Kd.R k35 35 w' w.heap.size (fun k_=>some k_≠(v1_:Value).ownBlock) v0_ (trimP r0 l0 l2).1∧Kd.R k35 35 w' w.heap.size (fun k_=>some k_≠(v0_:Value).ownBlock) v1_ (trimP r1 l1 []).1∧Kd.R k37 37 w' w.heap.size (fun _=>True) v2_ (trimRows r0 l0 l2)∧Below w.heap.size w w':=by
 obtain ⟨f0,f1,f2⟩:=fitB_iff.1 hf
 have hcp:=copied_some f0 f1 f2
 go_enter Try.func17,Try.ntmps17
 have HR0:=Lib.hid hr0
 have HR1:=Lib.hid hr1
 have HR2:=Lib.hid hr2
 have HW0:=Lib.hid hw0
 have HW1:=Lib.hid hw1
 have HW2:=Lib.hid hw2
 have HCP:=Lib.hid hcp
 have HQ0:=Lib.hid hq0
 have HQ1:=Lib.hid hq1
 clear hr0 hr1 hr2 hw0 hw1 hw2 hcp hq0 hq1
 go_wp2_with fail
 have hbA:Below w.heap.size w ((w.alloc (.cells #[.slice A0 l0.length c0,.slice A1 l1.length c1,.slice A2 l2.length c2] 30)).alloc (.cells #[.slice none 0 0,.slice none 0 0,.slice none 0 0] 30)):=((Below.refl _ _).alloc (Nat.le_refl _) _).alloc (by simp) _
 refine (opt_copied.calls A0 c0 l0 A1 c1 l1 A2 c2 l2 l0 l1 l2 _ (Kd.C_below HR0.out hbA) hc0 (Kd.C_below HR1.out hbA) hc1 (Kd.C_below HR2.out hbA) hc2 HCP.out).mono ?_
 rintro e w1 ⟨v0,v1,v2,rfl,hV0,hV1,hV2,hB1⟩
 have b1:w1.heap[w.heap.size]?=some (.cells #[.slice A0 l0.length c0,.slice A1 l1.length c1,.slice A2 l2.length c2] 30 (0,0)):=blk_below (bk_a (blk_new _ _) _) hB1
 have b2:w1.heap[w.heap.size+1]?=some (.cells #[.slice none 0 0,.slice none 0 0,.slice none 0 0] 30 (0,0)):=blk_below (by have:=blk_new (w.alloc (.cells #[.slice A0 l0.length c0,.slice A1 l1.length c1,.slice A2 l2.length c2] 30)) (.cells #[.slice none 0 0,.slice none 0 0,.slice none 0 0] 30);simpa using this) hB1
 have hBw:Below w.heap.size w w1:=hbA.trans (hB1.mono (by simp;omega))
 have n02:=own_ne_of_types hV0 hV2
 have n12:=own_ne_of_types hV1 hV2
 have hV0':=Kd.R_bound hV0
 have hV1':=Kd.R_bound hV1
 have hV2':=Kd.R_bound hV2
 simp only [World.size_alloc] at hV0' hV1' hV2'
 have z1:=hB1.size
 simp only [World.size_alloc] at z1
 have z1a:w.heap.size < w1.heap.size:=by omega
 have z1b:w.heap.size+1 < w1.heap.size:=by omega
 obtain ⟨a0,d0,e0⟩:=Kd.R_slice hV0'
 obtain ⟨a1,d1,e1⟩:=Kd.R_slice hV1'
 obtain ⟨a2,d2,e2⟩:=Kd.R_slice hV2'
 subst e0 e1 e2
 have B1:=Lib.hid b1
 have B2:=Lib.hid b2
 have HV0:=Lib.hid hV0'
 have HV1:=Lib.hid hV1'
 have HV2:=Lib.hid hV2'
 have HBw:=Lib.hid hBw
 have k1a:=bk_c b1 0
 have k1b:=bk_c b1 1
 have k1c:=bk_c b1 2
 have f1a:=bk_f b1 0
 have f1b:=bk_f b1 1
 have f1c:=bk_f b1 2
 simp only [List.getElem?_toArray,List.getElem?_cons_zero,List.getElem?_cons_succ] at k1a k1b k1c
 have N02:=Lib.hid n02
 have N12:=Lib.hid n12
 clear hbA hV0 hV1 hV2 hB1 b1 b2 hBw hV0' hV1' hV2' n02 n12
 have htests:(((l0.length:Int) == 0)=false)∨(((l0.length:Int) == 0)=true∧((l1.length:Int) == 0)=false):=by
  by_cases h0:l0.length=0
  ·refine .inr ⟨by simp [h0],?_⟩
   rw [beq_eq_false_iff_ne]
   intro h;exact hne ⟨h0,by omega⟩
  ·left
   rw [beq_eq_false_iff_ne]
   intro h;exact h0 (by omega)
 clear hne
 dsimp only
 rcases htests with t0 | ⟨t0,t1⟩
 ·go_wp2_with fail
  clear t0
  have hBs:∀ k,k≠w.heap.size→(((w1.setCell ⟨w.heap.size,0,none⟩ (.slice a0 l0.length d0)).setCell ⟨w.heap.size,1,none⟩ (.slice a1 l1.length d1)).setCell ⟨w.heap.size,2,none⟩ (.slice a2 l2.length d2)).heap[k]?=w1.heap[k]?:=fun k h=>by
   rw [Below.heap_setCell _ _ _ _ h,Below.heap_setCell _ _ _ _ h,Below.heap_setCell _ _ _ _ h]
  have bB:(((w1.setCell ⟨w.heap.size,0,none⟩ (.slice a0 l0.length d0)).setCell ⟨w.heap.size,1,none⟩ (.slice a1 l1.length d1)).setCell ⟨w.heap.size,2,none⟩ (.slice a2 l2.length d2)).heap[w.heap.size]?=some (.cells #[.slice a0 l0.length d0,.slice a1 l1.length d1,.slice a2 l2.length d2] 30 (0,0)):=blk_set (blk_set (blk_set B1.out 0 _) 1 _) 2 _
  have hBB:Below w.heap.size w (((w1.setCell ⟨w.heap.size,0,none⟩ (.slice a0 l0.length d0)).setCell ⟨w.heap.size,1,none⟩ (.slice a1 l1.length d1)).setCell ⟨w.heap.size,2,none⟩ (.slice a2 l2.length d2)):=((HBw.out.setCell (p:=⟨w.heap.size,0,none⟩) (Nat.le_refl _) _).setCell (p:=⟨w.heap.size,1,none⟩) (Nat.le_refl _) _).setCell (p:=⟨w.heap.size,2,none⟩) (Nat.le_refl _) _
  have hsB:(((w1.setCell ⟨w.heap.size,0,none⟩ (.slice a0 l0.length d0)).setCell ⟨w.heap.size,1,none⟩ (.slice a1 l1.length d1)).setCell ⟨w.heap.size,2,none⟩ (.slice a2 l2.length d2)).heap.size=w1.heap.size:=by simp [World.setCell]
  generalize hwB:(((w1.setCell ⟨w.heap.size,0,none⟩ (.slice a0 l0.length d0)).setCell ⟨w.heap.size,1,none⟩ (.slice a1 l1.length d1)).setCell ⟨w.heap.size,2,none⟩ (.slice a2 l2.length d2))=wB at *
  clear hwB
  have hC0:=Kd.R_reads' (Kd.R_move HV0.out (w1:=wB) (fun k hk=>hBs k (by have:=hk.2.1;omega)))
  have hcl1:=trim_calls a0 d0 l0 a2 d2 l2 k0 r0 wB (w.heap.size+2) _ hC0.2.2 hC0.2.1 (Kd.R_move HV2.out (fun k hk=>hBs k (by have:=hk.2.1;omega))) HQ0.out hq0l f0 (by omega) (by omega) HW0.out HW2.out
  clear hC0
  refine hcl1.mono ?_
  clear hcl1
  rintro e w3 ⟨v0',rfl,hD,hRw,hb3,hf3'⟩
  have hf3:∀ k,k < wB.heap.size→some k≠(Value.slice a0 l0.length d0).ownBlock→some k≠(Value.slice a2 l2.length d2).ownBlock→w3.heap[k]?=wB.heap[k]?:=fun k a _ b=>hf3' k a b
  clear hf3'
  change Kd.R k35 35 w3 wB.heap.size (fun _=>True) v0' (trimP r0 l0 l2).1 at hD
  change Kd.R k37 37 w3 (w.heap.size+2) _ (.slice a2 l2.length d2) (trimP r0 l0 l2).2 at hRw
  have o0:some w.heap.size≠(Value.slice a0 l0.length d0).ownBlock:=fun e=>by have:=(HV0.out.1 _ e.symm).2.1;omega
  have o2:some w.heap.size≠(Value.slice a2 l2.length d2).ownBlock:=fun e=>by have:=(HV2.out.1 _ e.symm).2.1;omega
  have o0':some (w.heap.size+1)≠(Value.slice a0 l0.length d0).ownBlock:=fun e=>by have:=(HV0.out.1 _ e.symm).2.1;omega
  have o2':some (w.heap.size+1)≠(Value.slice a2 l2.length d2).ownBlock:=fun e=>by have:=(HV2.out.1 _ e.symm).2.1;omega
  have z3:=hb3.size
  have b3:w3.heap[w.heap.size]?=_:=(hf3 w.heap.size (by omega) o0 o2).trans bB
  have b3':w3.heap[w.heap.size+1]?=_:=(hf3 (w.heap.size+1) (by omega) o0' o2').trans ((hBs _ (by omega)).trans B2.out)
  have hE3:=Kd.R_move HV1.out (w1:=w3) (fun k hk=>by
   rw [hf3 k (by have:=hk.2.2.1;omega) (fun e=>hk.1 (by exact e)) (fun e=>typed_ne hk.2.2.2 (HV2.out.1 _ e.symm).2.2.2),hBs k (by have:=hk.2.1;omega)])
  have hD':=Kd.R_bound hD
  have hB3:Below w.heap.size w w3:=hBB.trans (hb3.mono (by omega))
  obtain ⟨a0',d0',e0'⟩:=Kd.R_slice hD'
  subst e0'
  have HD:=Lib.hid hD'
  have HRw:=Lib.hid hRw
  have HE3:=Lib.hid hE3
  have HB3:=Lib.hid hB3
  have HF3:=Lib.hid hf3
  have C3:=Lib.hid b3
  have C3':=Lib.hid b3'
  have k3a:=bk_c b3 0
  have k3b:=bk_c b3 1
  have k3c:=bk_c b3 2
  have f3a:=bk_f b3 0
  have f3b:=bk_f b3 1
  have f3c:=bk_f b3 2
  simp only [List.getElem?_toArray,List.getElem?_cons_zero,List.getElem?_cons_succ] at k3a k3b k3c
  have z3a:w.heap.size < w3.heap.size:=by omega
  have z3b:w.heap.size+1 < w3.heap.size:=by omega
  clear hD hD' hRw hE3 hB3 hf3 b3 b3' k1a k1b k1c f1a f1b f1c bB hBs hBB hb3 o0 o2 o0' o2'
  dsimp only
  go_wp2_with fail
  have hCs:∀ k,k≠w.heap.size→(w3.setCell ⟨w.heap.size,0,none⟩ (.slice a0' (trimP r0 l0 l2).1.length d0')).heap[k]?=w3.heap[k]?:=fun k h=>Below.heap_setCell _ _ _ _ h
  have bC:(w3.setCell ⟨w.heap.size,0,none⟩ (.slice a0' (trimP r0 l0 l2).1.length d0')).heap[w.heap.size]?=some (.cells #[.slice a0' (trimP r0 l0 l2).1.length d0',.slice a1 l1.length d1,.slice a2 l2.length d2] 30 (0,0)):=blk_set C3.out 0 _
  have hBC:Below w.heap.size w (w3.setCell ⟨w.heap.size,0,none⟩ (.slice a0' (trimP r0 l0 l2).1.length d0')):=HB3.out.setCell (p:=⟨w.heap.size,0,none⟩) (Nat.le_refl _) _
  have hsC:(w3.setCell ⟨w.heap.size,0,none⟩ (.slice a0' (trimP r0 l0 l2).1.length d0')).heap.size=w3.heap.size:=by simp [World.setCell]
  generalize hwC:w3.setCell ⟨w.heap.size,0,none⟩ (.slice a0' (trimP r0 l0 l2).1.length d0')=wC at *
  clear hwC
  have hC1:=Kd.R_reads' (Kd.R_move HE3.out (w1:=wC) (fun k hk=>hCs k (by have:=hk.2.1;omega)))
  have hcl1:=trim_calls a1 d1 l1 none 0 [] k1 r1 wC (w.heap.size+2) (fun _=>False) hC1.2.2 hC1.2.1 (Kd.R_nil k37 37 wC _ _) HQ1.out hq1l f1 (by simp) (by omega) HW1.out (by intro x hx;cases hx)
  clear hC1
  refine hcl1.mono ?_
  clear hcl1
  rintro e w4 ⟨v1',rfl,hE,_,hb4,hf4'⟩
  have hf4:∀ k,k < wC.heap.size→some k≠(Value.slice a1 l1.length d1).ownBlock→some k≠(Value.slice none ([]:List S37).length 0).ownBlock→w4.heap[k]?=wC.heap[k]?:=fun k a _ b=>hf4' k a b
  clear hf4'
  change Kd.R k35 35 w4 wC.heap.size (fun _=>True) v1' (trimP r1 l1 []).1 at hE
  have o1:some w.heap.size≠(Value.slice a1 l1.length d1).ownBlock:=fun e=>by have:=(HV1.out.1 _ e.symm).2.1;omega
  have o1':some (w.heap.size+1)≠(Value.slice a1 l1.length d1).ownBlock:=fun e=>by have:=(HV1.out.1 _ e.symm).2.1;omega
  have on:∀ k:Nat,some k≠(Value.slice none ([]:List S37).length 0).ownBlock:=fun k e=>by simp [Value.ownBlock] at e
  have z4:=hb4.size
  have b4:w4.heap[w.heap.size]?=_:=(hf4 w.heap.size (by omega) o1 (on _)).trans bC
  have b4':w4.heap[w.heap.size+1]?=_:=(hf4 (w.heap.size+1) (by omega) o1' (on _)).trans ((hCs _ (by omega)).trans C3'.out)
  have hD4:=Kd.R_move HD.out (w1:=w4) (fun k hk=>by
   rw [hf4 k (by have:=hk.2.2.1;omega) (fun e=>by have h1:=(HV1.out.1 _ e.symm).2.2.1;have h2:=hk.2.1;omega) (on _),hCs k (by have:=hk.2.1;omega)])
  have hR4:=Kd.R_move HRw.out (w1:=w4) (fun k hk=>by
   rw [hf4 k (by have:=hk.2.2.1;omega) (fun e=>typed_ne (HV1.out.1 _ e.symm).2.2.2 hk.2.2.2) (on _),hCs k (by have:=hk.2.1;omega)])
  have hB4:Below w.heap.size w w4:=hBC.trans (hb4.mono (by omega))
  obtain ⟨a1',d1',e1'⟩:=Kd.R_slice hE
  subst e1'
  have hne1:∀ k,wB.heap.size≤k→k < w3.heap.size→some k≠(Value.slice a1' (trimP r1 l1 []).1.length d1').ownBlock:=fun k h1 h2 e=>by
   have:=((Kd.R_bound hE).1 k e.symm).2.1;omega
  have hne0:∀ k,wC.heap.size≤k→some k≠(Value.slice a0' (trimP r0 l0 l2).1.length d0').ownBlock:=fun k h1 e=>by
   have:=(HD.out.1 k e.symm).2.2.1;omega
  have HE:=Lib.hid (Kd.R_bound hE)
  have HD4:=Lib.hid hD4
  have HR4:=Lib.hid hR4
  have HB4:=Lib.hid hB4
  have C4:=Lib.hid b4
  have C4':=Lib.hid b4'
  have HN0:=Lib.hid hne0
  have HN1:=Lib.hid hne1
  have k4a:=bk_c b4 0
  have k4b:=bk_c b4 1
  have k4c:=bk_c b4 2
  have f4a:=bk_f b4 0
  have f4b:=bk_f b4 1
  have f4c:=bk_f b4 2
  have r4a:=bk_c b4' 0
  have r4b:=bk_c b4' 1
  have r4c:=bk_c b4' 2
  have g4a:=bk_f b4' 0
  have g4b:=bk_f b4' 1
  have g4c:=bk_f b4' 2
  simp only [List.getElem?_toArray,List.getElem?_cons_zero,List.getElem?_cons_succ] at k4a k4b k4c r4a r4b r4c
  have z4a:w.heap.size < w4.heap.size:=by omega
  have z4b:w.heap.size+1 < w4.heap.size:=by omega
  clear hE hD4 hR4 hB4 hf4 b4 b4' k3a k3b k3c f3a f3b f3c bC hCs hBC hb4 o1 o1' on hne0 hne1
  dsimp only
  go_wp2_with fail
  have hDs:∀ k,k≠w.heap.size→(w4.setCell ⟨w.heap.size,1,none⟩ (.slice a1' (trimP r1 l1 []).1.length d1')).heap[k]?=w4.heap[k]?:=fun k h=>Below.heap_setCell _ _ _ _ h
  have bD:(w4.setCell ⟨w.heap.size,1,none⟩ (.slice a1' (trimP r1 l1 []).1.length d1')).heap[w.heap.size]?=some (.cells #[.slice a0' (trimP r0 l0 l2).1.length d0',.slice a1' (trimP r1 l1 []).1.length d1',.slice a2 l2.length d2] 30 (0,0)):=blk_set C4.out 1 _
  have bD':=(hDs (w.heap.size+1) (by omega)).trans C4'.out
  have hBD:Below w.heap.size w (w4.setCell ⟨w.heap.size,1,none⟩ (.slice a1' (trimP r1 l1 []).1.length d1')):=HB4.out.setCell (p:=⟨w.heap.size,1,none⟩) (Nat.le_refl _) _
  have hsD:(w4.setCell ⟨w.heap.size,1,none⟩ (.slice a1' (trimP r1 l1 []).1.length d1')).heap.size=w4.heap.size:=by simp [World.setCell]
  generalize hwD:w4.setCell ⟨w.heap.size,1,none⟩ (.slice a1' (trimP r1 l1 []).1.length d1')=wD at *
  clear hwD
  have hD5:=Kd.R_move HD4.out (w1:=wD) (fun k hk=>hDs k (by have:=hk.2.1;omega))
  have hE5:=Kd.R_move HE.out (w1:=wD) (fun k hk=>hDs k (by have:=hk.2.1;omega))
  have hR5:=Kd.R_move HR4.out (w1:=wD) (fun k hk=>hDs k (by have:=hk.2.1;omega))
  refine (ContainsFunc_calls a0' d0' (trimP r0 l0 l2).1 wD (Kd.R_reads' hD5).2.2).mono ?_
  rintro e w5 ⟨rfl,hb5⟩
  have z5:=hb5.size
  have b5:=blk_below bD hb5
  have b5':=blk_below bD' hb5
  have HD5:=Lib.hid (Kd.R_below hD5 hb5)
  have HE5:=Lib.hid (Kd.R_below hE5 hb5)
  have hR5':=Kd.R_below hR5 hb5
  have hlr:(trimP r0 l0 l2).2.length=l2.length:=List.length_map _
  have HB5:=Lib.hid (hBD.trans (hb5.mono (by omega)))
  have HR5:=Lib.hid hR5'
  clear hDs bD bD' hBD hD5 hE5 hR5 hb5 k4a k4b k4c f4a f4b f4c r4a r4b r4c g4a g4b g4c hlr
  have C5:=Lib.hid b5
  have C5':=Lib.hid b5'
  have k5a:=bk_c b5 0
  have k5b:=bk_c b5 1
  have k5c:=bk_c b5 2
  have f5a:=bk_f b5 0
  have f5b:=bk_f b5 1
  have f5c:=bk_f b5 2
  have r5a:=bk_c b5' 0
  have r5b:=bk_c b5' 1
  have r5c:=bk_c b5' 2
  have g5a:=bk_f b5' 0
  have g5b:=bk_f b5' 1
  have g5c:=bk_f b5' 2
  simp only [List.getElem?_toArray,List.getElem?_cons_zero,List.getElem?_cons_succ] at k5a k5b k5c r5a r5b r5c
  have z5a:w.heap.size < w5.heap.size:=by omega
  have z5b:w.heap.size+1 < w5.heap.size:=by omega
  dsimp only
  cases hj:decide (0≤jumpAt (trimP r0 l0 l2).1) with
  | true =>
   have htr:trimRows r0 l0 l2=(trimP r0 l0 l2).2:=by unfold trimRows;rw [if_pos hj]
   have HTR:=Lib.hid htr
   clear hj htr b5 b5'
   go_wp2_with fail
   have hZ:∀ k,k≠w.heap.size+1→(((w5.setCell ⟨w.heap.size+1,0,none⟩ (.slice a0' (trimP r0 l0 l2).1.length d0')).setCell ⟨w.heap.size+1,1,none⟩ (.slice a1' (trimP r1 l1 []).1.length d1')).setCell ⟨w.heap.size+1,2,none⟩ (.slice a2 l2.length d2)).heap[k]?=w5.heap[k]?:=fun k h2=>by
    rw [Below.heap_setCell _ _ _ _ h2,Below.heap_setCell _ _ _ _ h2,Below.heap_setCell _ _ _ _ h2]
   refine bodyPost_ret (results_cell_row rfl _ _ (w.heap.size+1) 30 #[.slice a0' (trimP r0 l0 l2).1.length d0',.slice a1' (trimP r1 l1 []).1.length d1',.slice a2 l2.length d2] (0,0) _ rfl (blk_set (blk_set (blk_set C5'.out 0 _) 1 _) 2 _) Try.underlying30 rfl (by kernel_rfl)) rfl ?_
   refine ⟨_,_,_,rfl,?_,?_,?_,?_⟩
   ·exact Kd.R_lower (Kd.R_mono (Kd.R_move HD5.out (fun k hk=>hZ k (by have:=hk.2.1;omega))) (fun k hk=>HN1.out k hk.2.1 hk.2.2.1)) (by omega)
   ·exact Kd.R_lower (Kd.R_mono (Kd.R_move HE5.out (fun k hk=>hZ k (by have:=hk.2.1;omega))) (fun k hk=>HN0.out k hk.2.1)) (by omega)
   ·rw [HTR.out]
    exact Kd.R_lower (Kd.R_mono (Kd.R_move HR5.out (fun k hk=>hZ k (by have:=hk.2.1;omega))) (fun _ _=>trivial)) (by omega)
   ·exact ((HB5.out.setCell (p:=⟨w.heap.size+1,0,none⟩) (by show w.heap.size≤w.heap.size+1;omega) _).setCell (p:=⟨w.heap.size+1,1,none⟩) (by show w.heap.size≤w.heap.size+1;omega) _).setCell (p:=⟨w.heap.size+1,2,none⟩) (by show w.heap.size≤w.heap.size+1;omega) _
  | false =>
   have htr:trimRows r0 l0 l2=[]:=by unfold trimRows;rw [if_neg (by simp [hj])]
   obtain ⟨w6,hclr,hb6,hs6⟩:=clear_rows HR5.out
   have o2:some w.heap.size≠(Value.slice a2 l2.length d2).ownBlock:=fun e=>by have:=(HV2.out.1 _ e.symm).2.1;omega
   have o2':some (w.heap.size+1)≠(Value.slice a2 l2.length d2).ownBlock:=fun e=>by have:=(HV2.out.1 _ e.symm).2.1;omega
   have z6:=hb6.size
   have c6:=(hs6 _ z5a o2).trans b5
   have c6':=(hs6 _ z5b o2').trans b5'
   have HD6:=Lib.hid (Kd.R_move (Kd.R_bound HD5.out) (w1:=w6) (fun k hk=>hs6 k hk.2.2.1 (fun e=>by have h1:=(HV2.out.1 _ e.symm).2.2.1;have h2:=hk.1.2.1;omega)))
   have HE6:=Lib.hid (Kd.R_move (Kd.R_bound HE5.out) (w1:=w6) (fun k hk=>hs6 k hk.2.2.1 (fun e=>by have h1:=(HV2.out.1 _ e.symm).2.2.1;have h2:=hk.1.2.1;omega)))
   have HB6:=Lib.hid (HB5.out.trans (hb6.mono (by omega)))
   have HTR:=Lib.hid htr
   have C6':=Lib.hid c6'
   have k6a:=bk_c c6 0
   have k6b:=bk_c c6 1
   have k6c:=bk_c c6 2
   have f6a:=bk_f c6 0
   have f6b:=bk_f c6 1
   have f6c:=bk_f c6 2
   have r6a:=bk_c c6' 0
   have r6b:=bk_c c6' 1
   have r6c:=bk_c c6' 2
   have g6a:=bk_f c6' 0
   have g6b:=bk_f c6' 1
   have g6c:=bk_f c6' 2
   simp only [List.getElem?_toArray,List.getElem?_cons_zero,List.getElem?_cons_succ] at k6a k6b k6c r6a r6b r6c
   have z6a:w.heap.size < w6.heap.size:=by omega
   have z6b:w.heap.size+1 < w6.heap.size:=by omega
   clear hj htr b5 b5' c6 c6' hb6 hs6 o2 o2'
   go_wp2_with (simp only [hclr])
   have hZ:∀ k,k≠w.heap.size→k≠w.heap.size+1→((((w6.setCell ⟨w.heap.size,2,none⟩ (.slice none 0 0)).setCell ⟨w.heap.size+1,0,none⟩ (.slice a0' (trimP r0 l0 l2).1.length d0')).setCell ⟨w.heap.size+1,1,none⟩ (.slice a1' (trimP r1 l1 []).1.length d1')).setCell ⟨w.heap.size+1,2,none⟩ (.slice none 0 0)).heap[k]?=w6.heap[k]?:=fun k h1 h2=>by
    rw [Below.heap_setCell _ _ _ _ h2,Below.heap_setCell _ _ _ _ h2,Below.heap_setCell _ _ _ _ h2,Below.heap_setCell _ _ _ _ h1]
   refine bodyPost_ret (results_cell_row rfl _ _ (w.heap.size+1) 30 #[.slice a0' (trimP r0 l0 l2).1.length d0',.slice a1' (trimP r1 l1 []).1.length d1',.slice none 0 0] (0,0) _ rfl (blk_set (blk_set (blk_set ((Below.heap_setCell _ _ _ _ (by show w.heap.size+1≠w.heap.size;omega)).trans C6'.out) 0 _) 1 _) 2 _) Try.underlying30 rfl (by kernel_rfl)) rfl ?_
   refine ⟨_,_,_,rfl,?_,?_,?_,?_⟩
   ·exact Kd.R_lower (Kd.R_mono (Kd.R_move HD6.out (fun k hk=>hZ k (by have:=hk.1.2.1;omega) (by have:=hk.1.2.1;omega))) (fun k hk=>HN1.out k hk.1.2.1 hk.1.2.2.1)) (by omega)
   ·exact Kd.R_lower (Kd.R_mono (Kd.R_move HE6.out (fun k hk=>hZ k (by have:=hk.1.2.1;omega) (by have:=hk.1.2.1;omega))) (fun k hk=>HN0.out k hk.1.2.1)) (by omega)
   ·rw [HTR.out];exact Kd.R_nil _ _ _ _ _
   ·exact (((HB6.out.setCell (p:=⟨w.heap.size,2,none⟩) (Nat.le_refl _) _).setCell (p:=⟨w.heap.size+1,0,none⟩) (by show w.heap.size≤w.heap.size+1;omega) _).setCell (p:=⟨w.heap.size+1,1,none⟩) (by show w.heap.size≤w.heap.size+1;omega) _).setCell (p:=⟨w.heap.size+1,2,none⟩) (by show w.heap.size≤w.heap.size+1;omega) _
 ·go_wp2_with fail
  clear t0 t1
  have hBs:∀ k,k≠w.heap.size→(((w1.setCell ⟨w.heap.size,0,none⟩ (.slice a0 l0.length d0)).setCell ⟨w.heap.size,1,none⟩ (.slice a1 l1.length d1)).setCell ⟨w.heap.size,2,none⟩ (.slice a2 l2.length d2)).heap[k]?=w1.heap[k]?:=fun k h=>by
   rw [Below.heap_setCell _ _ _ _ h,Below.heap_setCell _ _ _ _ h,Below.heap_setCell _ _ _ _ h]
  have bB:(((w1.setCell ⟨w.heap.size,0,none⟩ (.slice a0 l0.length d0)).setCell ⟨w.heap.size,1,none⟩ (.slice a1 l1.length d1)).setCell ⟨w.heap.size,2,none⟩ (.slice a2 l2.length d2)).heap[w.heap.size]?=some (.cells #[.slice a0 l0.length d0,.slice a1 l1.length d1,.slice a2 l2.length d2] 30 (0,0)):=blk_set (blk_set (blk_set B1.out 0 _) 1 _) 2 _
  have hBB:Below w.heap.size w (((w1.setCell ⟨w.heap.size,0,none⟩ (.slice a0 l0.length d0)).setCell ⟨w.heap.size,1,none⟩ (.slice a1 l1.length d1)).setCell ⟨w.heap.size,2,none⟩ (.slice a2 l2.length d2)):=((HBw.out.setCell (p:=⟨w.heap.size,0,none⟩) (Nat.le_refl _) _).setCell (p:=⟨w.heap.size,1,none⟩) (Nat.le_refl _) _).setCell (p:=⟨w.heap.size,2,none⟩) (Nat.le_refl _) _
  have hsB:(((w1.setCell ⟨w.heap.size,0,none⟩ (.slice a0 l0.length d0)).setCell ⟨w.heap.size,1,none⟩ (.slice a1 l1.length d1)).setCell ⟨w.heap.size,2,none⟩ (.slice a2 l2.length d2)).heap.size=w1.heap.size:=by simp [World.setCell]
  generalize hwB:(((w1.setCell ⟨w.heap.size,0,none⟩ (.slice a0 l0.length d0)).setCell ⟨w.heap.size,1,none⟩ (.slice a1 l1.length d1)).setCell ⟨w.heap.size,2,none⟩ (.slice a2 l2.length d2))=wB at *
  clear hwB
  have hC0:=Kd.R_reads' (Kd.R_move HV0.out (w1:=wB) (fun k hk=>hBs k (by have:=hk.2.1;omega)))
  have hcl1:=trim_calls a0 d0 l0 a2 d2 l2 k0 r0 wB (w.heap.size+2) _ hC0.2.2 hC0.2.1 (Kd.R_move HV2.out (fun k hk=>hBs k (by have:=hk.2.1;omega))) HQ0.out hq0l f0 (by omega) (by omega) HW0.out HW2.out
  clear hC0
  refine hcl1.mono ?_
  clear hcl1
  rintro e w3 ⟨v0',rfl,hD,hRw,hb3,hf3'⟩
  have hf3:∀ k,k < wB.heap.size→some k≠(Value.slice a0 l0.length d0).ownBlock→some k≠(Value.slice a2 l2.length d2).ownBlock→w3.heap[k]?=wB.heap[k]?:=fun k a _ b=>hf3' k a b
  clear hf3'
  change Kd.R k35 35 w3 wB.heap.size (fun _=>True) v0' (trimP r0 l0 l2).1 at hD
  change Kd.R k37 37 w3 (w.heap.size+2) _ (.slice a2 l2.length d2) (trimP r0 l0 l2).2 at hRw
  have o0:some w.heap.size≠(Value.slice a0 l0.length d0).ownBlock:=fun e=>by have:=(HV0.out.1 _ e.symm).2.1;omega
  have o2:some w.heap.size≠(Value.slice a2 l2.length d2).ownBlock:=fun e=>by have:=(HV2.out.1 _ e.symm).2.1;omega
  have o0':some (w.heap.size+1)≠(Value.slice a0 l0.length d0).ownBlock:=fun e=>by have:=(HV0.out.1 _ e.symm).2.1;omega
  have o2':some (w.heap.size+1)≠(Value.slice a2 l2.length d2).ownBlock:=fun e=>by have:=(HV2.out.1 _ e.symm).2.1;omega
  have z3:=hb3.size
  have b3:w3.heap[w.heap.size]?=_:=(hf3 w.heap.size (by omega) o0 o2).trans bB
  have b3':w3.heap[w.heap.size+1]?=_:=(hf3 (w.heap.size+1) (by omega) o0' o2').trans ((hBs _ (by omega)).trans B2.out)
  have hE3:=Kd.R_move HV1.out (w1:=w3) (fun k hk=>by
   rw [hf3 k (by have:=hk.2.2.1;omega) (fun e=>hk.1 (by exact e)) (fun e=>typed_ne hk.2.2.2 (HV2.out.1 _ e.symm).2.2.2),hBs k (by have:=hk.2.1;omega)])
  have hD':=Kd.R_bound hD
  have hB3:Below w.heap.size w w3:=hBB.trans (hb3.mono (by omega))
  obtain ⟨a0',d0',e0'⟩:=Kd.R_slice hD'
  subst e0'
  have HD:=Lib.hid hD'
  have HRw:=Lib.hid hRw
  have HE3:=Lib.hid hE3
  have HB3:=Lib.hid hB3
  have HF3:=Lib.hid hf3
  have C3:=Lib.hid b3
  have C3':=Lib.hid b3'
  have k3a:=bk_c b3 0
  have k3b:=bk_c b3 1
  have k3c:=bk_c b3 2
  have f3a:=bk_f b3 0
  have f3b:=bk_f b3 1
  have f3c:=bk_f b3 2
  simp only [List.getElem?_toArray,List.getElem?_cons_zero,List.getElem?_cons_succ] at k3a k3b k3c
  have z3a:w.heap.size < w3.heap.size:=by omega
  have z3b:w.heap.size+1 < w3.heap.size:=by omega
  clear hD hD' hRw hE3 hB3 hf3 b3 b3' k1a k1b k1c f1a f1b f1c bB hBs hBB hb3 o0 o2 o0' o2'
  dsimp only
  go_wp2_with fail
  have hCs:∀ k,k≠w.heap.size→(w3.setCell ⟨w.heap.size,0,none⟩ (.slice a0' (trimP r0 l0 l2).1.length d0')).heap[k]?=w3.heap[k]?:=fun k h=>Below.heap_setCell _ _ _ _ h
  have bC:(w3.setCell ⟨w.heap.size,0,none⟩ (.slice a0' (trimP r0 l0 l2).1.length d0')).heap[w.heap.size]?=some (.cells #[.slice a0' (trimP r0 l0 l2).1.length d0',.slice a1 l1.length d1,.slice a2 l2.length d2] 30 (0,0)):=blk_set C3.out 0 _
  have hBC:Below w.heap.size w (w3.setCell ⟨w.heap.size,0,none⟩ (.slice a0' (trimP r0 l0 l2).1.length d0')):=HB3.out.setCell (p:=⟨w.heap.size,0,none⟩) (Nat.le_refl _) _
  have hsC:(w3.setCell ⟨w.heap.size,0,none⟩ (.slice a0' (trimP r0 l0 l2).1.length d0')).heap.size=w3.heap.size:=by simp [World.setCell]
  generalize hwC:w3.setCell ⟨w.heap.size,0,none⟩ (.slice a0' (trimP r0 l0 l2).1.length d0')=wC at *
  clear hwC
  have hC1:=Kd.R_reads' (Kd.R_move HE3.out (w1:=wC) (fun k hk=>hCs k (by have:=hk.2.1;omega)))
  have hcl1:=trim_calls a1 d1 l1 none 0 [] k1 r1 wC (w.heap.size+2) (fun _=>False) hC1.2.2 hC1.2.1 (Kd.R_nil k37 37 wC _ _) HQ1.out hq1l f1 (by simp) (by omega) HW1.out (by intro x hx;cases hx)
  clear hC1
  refine hcl1.mono ?_
  clear hcl1
  rintro e w4 ⟨v1',rfl,hE,_,hb4,hf4'⟩
  have hf4:∀ k,k < wC.heap.size→some k≠(Value.slice a1 l1.length d1).ownBlock→some k≠(Value.slice none ([]:List S37).length 0).ownBlock→w4.heap[k]?=wC.heap[k]?:=fun k a _ b=>hf4' k a b
  clear hf4'
  change Kd.R k35 35 w4 wC.heap.size (fun _=>True) v1' (trimP r1 l1 []).1 at hE
  have o1:some w.heap.size≠(Value.slice a1 l1.length d1).ownBlock:=fun e=>by have:=(HV1.out.1 _ e.symm).2.1;omega
  have o1':some (w.heap.size+1)≠(Value.slice a1 l1.length d1).ownBlock:=fun e=>by have:=(HV1.out.1 _ e.symm).2.1;omega
  have on:∀ k:Nat,some k≠(Value.slice none ([]:List S37).length 0).ownBlock:=fun k e=>by simp [Value.ownBlock] at e
  have z4:=hb4.size
  have b4:w4.heap[w.heap.size]?=_:=(hf4 w.heap.size (by omega) o1 (on _)).trans bC
  have b4':w4.heap[w.heap.size+1]?=_:=(hf4 (w.heap.size+1) (by omega) o1' (on _)).trans ((hCs _ (by omega)).trans C3'.out)
  have hD4:=Kd.R_move HD.out (w1:=w4) (fun k hk=>by
   rw [hf4 k (by have:=hk.2.2.1;omega) (fun e=>by have h1:=(HV1.out.1 _ e.symm).2.2.1;have h2:=hk.2.1;omega) (on _),hCs k (by have:=hk.2.1;omega)])
  have hR4:=Kd.R_move HRw.out (w1:=w4) (fun k hk=>by
   rw [hf4 k (by have:=hk.2.2.1;omega) (fun e=>typed_ne (HV1.out.1 _ e.symm).2.2.2 hk.2.2.2) (on _),hCs k (by have:=hk.2.1;omega)])
  have hB4:Below w.heap.size w w4:=hBC.trans (hb4.mono (by omega))
  obtain ⟨a1',d1',e1'⟩:=Kd.R_slice hE
  subst e1'
  have hne1:∀ k,wB.heap.size≤k→k < w3.heap.size→some k≠(Value.slice a1' (trimP r1 l1 []).1.length d1').ownBlock:=fun k h1 h2 e=>by
   have:=((Kd.R_bound hE).1 k e.symm).2.1;omega
  have hne0:∀ k,wC.heap.size≤k→some k≠(Value.slice a0' (trimP r0 l0 l2).1.length d0').ownBlock:=fun k h1 e=>by
   have:=(HD.out.1 k e.symm).2.2.1;omega
  have HE:=Lib.hid (Kd.R_bound hE)
  have HD4:=Lib.hid hD4
  have HR4:=Lib.hid hR4
  have HB4:=Lib.hid hB4
  have C4:=Lib.hid b4
  have C4':=Lib.hid b4'
  have HN0:=Lib.hid hne0
  have HN1:=Lib.hid hne1
  have k4a:=bk_c b4 0
  have k4b:=bk_c b4 1
  have k4c:=bk_c b4 2
  have f4a:=bk_f b4 0
  have f4b:=bk_f b4 1
  have f4c:=bk_f b4 2
  have r4a:=bk_c b4' 0
  have r4b:=bk_c b4' 1
  have r4c:=bk_c b4' 2
  have g4a:=bk_f b4' 0
  have g4b:=bk_f b4' 1
  have g4c:=bk_f b4' 2
  simp only [List.getElem?_toArray,List.getElem?_cons_zero,List.getElem?_cons_succ] at k4a k4b k4c r4a r4b r4c
  have z4a:w.heap.size < w4.heap.size:=by omega
  have z4b:w.heap.size+1 < w4.heap.size:=by omega
  clear hE hD4 hR4 hB4 hf4 b4 b4' k3a k3b k3c f3a f3b f3c bC hCs hBC hb4 o1 o1' on hne0 hne1
  dsimp only
  go_wp2_with fail
  have hDs:∀ k,k≠w.heap.size→(w4.setCell ⟨w.heap.size,1,none⟩ (.slice a1' (trimP r1 l1 []).1.length d1')).heap[k]?=w4.heap[k]?:=fun k h=>Below.heap_setCell _ _ _ _ h
  have bD:(w4.setCell ⟨w.heap.size,1,none⟩ (.slice a1' (trimP r1 l1 []).1.length d1')).heap[w.heap.size]?=some (.cells #[.slice a0' (trimP r0 l0 l2).1.length d0',.slice a1' (trimP r1 l1 []).1.length d1',.slice a2 l2.length d2] 30 (0,0)):=blk_set C4.out 1 _
  have bD':=(hDs (w.heap.size+1) (by omega)).trans C4'.out
  have hBD:Below w.heap.size w (w4.setCell ⟨w.heap.size,1,none⟩ (.slice a1' (trimP r1 l1 []).1.length d1')):=HB4.out.setCell (p:=⟨w.heap.size,1,none⟩) (Nat.le_refl _) _
  have hsD:(w4.setCell ⟨w.heap.size,1,none⟩ (.slice a1' (trimP r1 l1 []).1.length d1')).heap.size=w4.heap.size:=by simp [World.setCell]
  generalize hwD:w4.setCell ⟨w.heap.size,1,none⟩ (.slice a1' (trimP r1 l1 []).1.length d1')=wD at *
  clear hwD
  have hD5:=Kd.R_move HD4.out (w1:=wD) (fun k hk=>hDs k (by have:=hk.2.1;omega))
  have hE5:=Kd.R_move HE.out (w1:=wD) (fun k hk=>hDs k (by have:=hk.2.1;omega))
  have hR5:=Kd.R_move HR4.out (w1:=wD) (fun k hk=>hDs k (by have:=hk.2.1;omega))
  refine (ContainsFunc_calls a0' d0' (trimP r0 l0 l2).1 wD (Kd.R_reads' hD5).2.2).mono ?_
  rintro e w5 ⟨rfl,hb5⟩
  have z5:=hb5.size
  have b5:=blk_below bD hb5
  have b5':=blk_below bD' hb5
  have HD5:=Lib.hid (Kd.R_below hD5 hb5)
  have HE5:=Lib.hid (Kd.R_below hE5 hb5)
  have hR5':=Kd.R_below hR5 hb5
  have hlr:(trimP r0 l0 l2).2.length=l2.length:=List.length_map _
  have HB5:=Lib.hid (hBD.trans (hb5.mono (by omega)))
  have HR5:=Lib.hid hR5'
  clear hDs bD bD' hBD hD5 hE5 hR5 hb5 k4a k4b k4c f4a f4b f4c r4a r4b r4c g4a g4b g4c hlr
  have C5:=Lib.hid b5
  have C5':=Lib.hid b5'
  have k5a:=bk_c b5 0
  have k5b:=bk_c b5 1
  have k5c:=bk_c b5 2
  have f5a:=bk_f b5 0
  have f5b:=bk_f b5 1
  have f5c:=bk_f b5 2
  have r5a:=bk_c b5' 0
  have r5b:=bk_c b5' 1
  have r5c:=bk_c b5' 2
  have g5a:=bk_f b5' 0
  have g5b:=bk_f b5' 1
  have g5c:=bk_f b5' 2
  simp only [List.getElem?_toArray,List.getElem?_cons_zero,List.getElem?_cons_succ] at k5a k5b k5c r5a r5b r5c
  have z5a:w.heap.size < w5.heap.size:=by omega
  have z5b:w.heap.size+1 < w5.heap.size:=by omega
  dsimp only
  cases hj:decide (0≤jumpAt (trimP r0 l0 l2).1) with
  | true =>
   have htr:trimRows r0 l0 l2=(trimP r0 l0 l2).2:=by unfold trimRows;rw [if_pos hj]
   have HTR:=Lib.hid htr
   clear hj htr b5 b5'
   go_wp2_with fail
   have hZ:∀ k,k≠w.heap.size+1→(((w5.setCell ⟨w.heap.size+1,0,none⟩ (.slice a0' (trimP r0 l0 l2).1.length d0')).setCell ⟨w.heap.size+1,1,none⟩ (.slice a1' (trimP r1 l1 []).1.length d1')).setCell ⟨w.heap.size+1,2,none⟩ (.slice a2 l2.length d2)).heap[k]?=w5.heap[k]?:=fun k h2=>by
    rw [Below.heap_setCell _ _ _ _ h2,Below.heap_setCell _ _ _ _ h2,Below.heap_setCell _ _ _ _ h2]
   refine bodyPost_ret (results_cell_row rfl _ _ (w.heap.size+1) 30 #[.slice a0' (trimP r0 l0 l2).1.length d0',.slice a1' (trimP r1 l1 []).1.length d1',.slice a2 l2.length d2] (0,0) _ rfl (blk_set (blk_set (blk_set C5'.out 0 _) 1 _) 2 _) Try.underlying30 rfl (by kernel_rfl)) rfl ?_
   refine ⟨_,_,_,rfl,?_,?_,?_,?_⟩
   ·exact Kd.R_lower (Kd.R_mono (Kd.R_move HD5.out (fun k hk=>hZ k (by have:=hk.2.1;omega))) (fun k hk=>HN1.out k hk.2.1 hk.2.2.1)) (by omega)
   ·exact Kd.R_lower (Kd.R_mono (Kd.R_move HE5.out (fun k hk=>hZ k (by have:=hk.2.1;omega))) (fun k hk=>HN0.out k hk.2.1)) (by omega)
   ·rw [HTR.out]
    exact Kd.R_lower (Kd.R_mono (Kd.R_move HR5.out (fun k hk=>hZ k (by have:=hk.2.1;omega))) (fun _ _=>trivial)) (by omega)
   ·exact ((HB5.out.setCell (p:=⟨w.heap.size+1,0,none⟩) (by show w.heap.size≤w.heap.size+1;omega) _).setCell (p:=⟨w.heap.size+1,1,none⟩) (by show w.heap.size≤w.heap.size+1;omega) _).setCell (p:=⟨w.heap.size+1,2,none⟩) (by show w.heap.size≤w.heap.size+1;omega) _
  | false =>
   have htr:trimRows r0 l0 l2=[]:=by unfold trimRows;rw [if_neg (by simp [hj])]
   obtain ⟨w6,hclr,hb6,hs6⟩:=clear_rows HR5.out
   have o2:some w.heap.size≠(Value.slice a2 l2.length d2).ownBlock:=fun e=>by have:=(HV2.out.1 _ e.symm).2.1;omega
   have o2':some (w.heap.size+1)≠(Value.slice a2 l2.length d2).ownBlock:=fun e=>by have:=(HV2.out.1 _ e.symm).2.1;omega
   have z6:=hb6.size
   have c6:=(hs6 _ z5a o2).trans b5
   have c6':=(hs6 _ z5b o2').trans b5'
   have HD6:=Lib.hid (Kd.R_move (Kd.R_bound HD5.out) (w1:=w6) (fun k hk=>hs6 k hk.2.2.1 (fun e=>by have h1:=(HV2.out.1 _ e.symm).2.2.1;have h2:=hk.1.2.1;omega)))
   have HE6:=Lib.hid (Kd.R_move (Kd.R_bound HE5.out) (w1:=w6) (fun k hk=>hs6 k hk.2.2.1 (fun e=>by have h1:=(HV2.out.1 _ e.symm).2.2.1;have h2:=hk.1.2.1;omega)))
   have HB6:=Lib.hid (HB5.out.trans (hb6.mono (by omega)))
   have HTR:=Lib.hid htr
   have C6':=Lib.hid c6'
   have k6a:=bk_c c6 0
   have k6b:=bk_c c6 1
   have k6c:=bk_c c6 2
   have f6a:=bk_f c6 0
   have f6b:=bk_f c6 1
   have f6c:=bk_f c6 2
   have r6a:=bk_c c6' 0
   have r6b:=bk_c c6' 1
   have r6c:=bk_c c6' 2
   have g6a:=bk_f c6' 0
   have g6b:=bk_f c6' 1
   have g6c:=bk_f c6' 2
   simp only [List.getElem?_toArray,List.getElem?_cons_zero,List.getElem?_cons_succ] at k6a k6b k6c r6a r6b r6c
   have z6a:w.heap.size < w6.heap.size:=by omega
   have z6b:w.heap.size+1 < w6.heap.size:=by omega
   clear hj htr b5 b5' c6 c6' hb6 hs6 o2 o2'
   go_wp2_with (simp only [hclr])
   have hZ:∀ k,k≠w.heap.size→k≠w.heap.size+1→((((w6.setCell ⟨w.heap.size,2,none⟩ (.slice none 0 0)).setCell ⟨w.heap.size+1,0,none⟩ (.slice a0' (trimP r0 l0 l2).1.length d0')).setCell ⟨w.heap.size+1,1,none⟩ (.slice a1' (trimP r1 l1 []).1.length d1')).setCell ⟨w.heap.size+1,2,none⟩ (.slice none 0 0)).heap[k]?=w6.heap[k]?:=fun k h1 h2=>by
    rw [Below.heap_setCell _ _ _ _ h2,Below.heap_setCell _ _ _ _ h2,Below.heap_setCell _ _ _ _ h2,Below.heap_setCell _ _ _ _ h1]
   refine bodyPost_ret (results_cell_row rfl _ _ (w.heap.size+1) 30 #[.slice a0' (trimP r0 l0 l2).1.length d0',.slice a1' (trimP r1 l1 []).1.length d1',.slice none 0 0] (0,0) _ rfl (blk_set (blk_set (blk_set ((Below.heap_setCell _ _ _ _ (by show w.heap.size+1≠w.heap.size;omega)).trans C6'.out) 0 _) 1 _) 2 _) Try.underlying30 rfl (by kernel_rfl)) rfl ?_
   refine ⟨_,_,_,rfl,?_,?_,?_,?_⟩
   ·exact Kd.R_lower (Kd.R_mono (Kd.R_move HD6.out (fun k hk=>hZ k (by have:=hk.1.2.1;omega) (by have:=hk.1.2.1;omega))) (fun k hk=>HN1.out k hk.1.2.1 hk.1.2.2.1)) (by omega)
   ·exact Kd.R_lower (Kd.R_mono (Kd.R_move HE6.out (fun k hk=>hZ k (by have:=hk.1.2.1;omega) (by have:=hk.1.2.1;omega))) (fun k hk=>HN0.out k hk.1.2.1)) (by omega)
   ·rw [HTR.out];exact Kd.R_nil _ _ _ _ _
   ·exact (((HB6.out.setCell (p:=⟨w.heap.size,2,none⟩) (Nat.le_refl _) _).setCell (p:=⟨w.heap.size+1,0,none⟩) (by show w.heap.size≤w.heap.size+1;omega) _).setCell (p:=⟨w.heap.size+1,1,none⟩) (by show w.heap.size≤w.heap.size+1;omega) _).setCell (p:=⟨w.heap.size+1,2,none⟩) (by show w.heap.size≤w.heap.size+1;omega) _
set_option maxRecDepth 100000 in
set_option maxHeartbeats 2000000 in
theorem Tables_stay (A0:Option Addr) (c0:Nat) (l0:List S35) (A1:Option Addr) (c1:Nat) (l1:List S35) (A2:Option Addr) (c2:Nat) (l2:List S37) (w:World)
  (hr0:Kd.C k35 w A0 l0.length l0) (hc0:l0.length≤c0) (hr1:Kd.C k35 w A1 l1.length l1) (hc1:l1.length≤c1) (hr2:Kd.C k37 w A2 l2.length l2) (hc2:l2.length≤c2)
  (hf:fitB l0 l1 l2=true) (hw0:∀ x ∈ l0,wfS x) (hw1:∀ x ∈ l1,wfS x) (hw2:∀ x ∈ l2,wfI x.f1) (hstay:0 < l2.length∨(l2.length=0∧l0.length < 2)∨(l2.length=0∧∃ h:1 < l0.length,(l0[1]).f0≠2)) :
  Calls Try.prog 11 #[.agg #[.slice A0 l0.length c0,.slice A1 l1.length c1,.slice A2 l2.length c2]] w fun e w'=>∃ v0_ v1_ v2_:Value,e=.returned (.agg #[v0_,v1_,v2_])∧Kd.R k35 35 w' w.heap.size (fun k_=>some k_≠(v1_:Value).ownBlock) v0_ l0∧Kd.R k35 35 w' w.heap.size (fun k_=>some k_≠(v0_:Value).ownBlock) v1_ l1∧Kd.R k37 37 w' w.heap.size (fun _=>True) v2_ l2∧Below w.heap.size w w':=by
 have HST:=Lib.hid hstay
 clear hstay
 obtain ⟨f0,f1,f2⟩:=fitB_iff.1 hf
 have hcp:=copied_some f0 f1 f2
 go_enter Try.func11,Try.ntmps11
 have HR0:=Lib.hid hr0
 have HR1:=Lib.hid hr1
 have HR2:=Lib.hid hr2
 have HW0:=Lib.hid hw0
 have HW1:=Lib.hid hw1
 have HW2:=Lib.hid hw2
 have HCP:=Lib.hid hcp
 clear hr0 hr1 hr2 hw0 hw1 hw2 hcp
 go_wp2_with fail
 have hbA:Below w.heap.size w ((w.alloc (.cells #[.slice A0 l0.length c0,.slice A1 l1.length c1,.slice A2 l2.length c2] 30)).alloc (.cells #[.slice none 0 0,.slice none 0 0,.slice none 0 0] 30)):=((Below.refl _ _).alloc (Nat.le_refl _) _).alloc (by simp) _
 refine (opt_copied.calls A0 c0 l0 A1 c1 l1 A2 c2 l2 l0 l1 l2 _ (Kd.C_below HR0.out hbA) hc0 (Kd.C_below HR1.out hbA) hc1 (Kd.C_below HR2.out hbA) hc2 HCP.out).mono ?_
 rintro e w1 ⟨v0,v1,v2,rfl,hV0,hV1,hV2,hB1⟩
 have b1:w1.heap[w.heap.size]?=some (.cells #[.slice A0 l0.length c0,.slice A1 l1.length c1,.slice A2 l2.length c2] 30 (0,0)):=blk_below (bk_a (blk_new _ _) _) hB1
 have b2:w1.heap[w.heap.size+1]?=some (.cells #[.slice none 0 0,.slice none 0 0,.slice none 0 0] 30 (0,0)):=blk_below (by have:=blk_new (w.alloc (.cells #[.slice A0 l0.length c0,.slice A1 l1.length c1,.slice A2 l2.length c2] 30)) (.cells #[.slice none 0 0,.slice none 0 0,.slice none 0 0] 30);simpa using this) hB1
 have hBw:Below w.heap.size w w1:=hbA.trans (hB1.mono (by simp;omega))
 have n02:=own_ne_of_types hV0 hV2
 have n12:=own_ne_of_types hV1 hV2
 have hV0':=Kd.R_bound hV0
 have hV1':=Kd.R_bound hV1
 have hV2':=Kd.R_bound hV2
 simp only [World.size_alloc] at hV0' hV1' hV2'
 have z1:=hB1.size
 simp only [World.size_alloc] at z1
 have z1a:w.heap.size < w1.heap.size:=by omega
 have z1b:w.heap.size+1 < w1.heap.size:=by omega
 obtain ⟨a0,d0,e0⟩:=Kd.R_slice hV0'
 obtain ⟨a1,d1,e1⟩:=Kd.R_slice hV1'
 obtain ⟨a2,d2,e2⟩:=Kd.R_slice hV2'
 subst e0 e1 e2
 have B1:=Lib.hid b1
 have B2:=Lib.hid b2
 have HV0:=Lib.hid hV0'
 have HV1:=Lib.hid hV1'
 have HV2:=Lib.hid hV2'
 have HBw:=Lib.hid hBw
 have k1a:=bk_c b1 0
 have k1b:=bk_c b1 1
 have k1c:=bk_c b1 2
 have f1a:=bk_f b1 0
 have f1b:=bk_f b1 1
 have f1c:=bk_f b1 2
 simp only [List.getElem?_toArray,List.getElem?_cons_zero,List.getElem?_cons_succ] at k1a k1b k1c
 have N02:=Lib.hid n02
 have N12:=Lib.hid n12
 clear hbA hV0 hV1 hV2 hB1 b1 b2 hBw hV0' hV1' hV2' n02 n12
 have b2:=B2.out
 have r5a:=bk_c b2 0
 have r5b:=bk_c b2 1
 have r5c:=bk_c b2 2
 have g5a:=bk_f b2 0
 have g5b:=bk_f b2 1
 have g5c:=bk_f b2 2
 simp only [List.getElem?_toArray,List.getElem?_cons_zero,List.getElem?_cons_succ] at r5a r5b r5c
 clear b2
 rcases HST.out with h | ⟨h,h2⟩ | ⟨h,h1,h2⟩
 ·have t0:(0:Int) < (l2.length:Int):=by omega
  have tn:(l2=[])=False:=by apply eq_false;intro e;rw [e] at h;exact absurd h (by decide)
  clear h
  dsimp only
  go_wp2_with fail
  have hZ:∀ k,k≠w.heap.size→k≠w.heap.size+1→((((((w1.setCell ⟨w.heap.size,0,none⟩ (.slice a0 l0.length d0)).setCell ⟨w.heap.size,1,none⟩ (.slice a1 l1.length d1)).setCell ⟨w.heap.size,2,none⟩ (.slice a2 l2.length d2)).setCell ⟨w.heap.size+1,0,none⟩ (.slice a0 l0.length d0)).setCell ⟨w.heap.size+1,1,none⟩ (.slice a1 l1.length d1)).setCell ⟨w.heap.size+1,2,none⟩ (.slice a2 l2.length d2)).heap[k]?=w1.heap[k]?:=fun k h1 h2=>by
   rw [Below.heap_setCell _ _ _ _ h2,Below.heap_setCell _ _ _ _ h2,Below.heap_setCell _ _ _ _ h2,Below.heap_setCell _ _ _ _ h1,Below.heap_setCell _ _ _ _ h1,Below.heap_setCell _ _ _ _ h1]
  refine bodyPost_ret (results_cell_row rfl _ _ (w.heap.size+1) 30 #[.slice a0 l0.length d0,.slice a1 l1.length d1,.slice a2 l2.length d2] (0,0) _ rfl (blk_set (blk_set (blk_set (((Below.heap_setCell _ _ _ _ (by show w.heap.size+1≠w.heap.size;omega)).trans ((Below.heap_setCell _ _ _ _ (by show w.heap.size+1≠w.heap.size;omega)).trans (Below.heap_setCell _ _ _ _ (by show w.heap.size+1≠w.heap.size;omega)))).trans B2.out) 0 _) 1 _) 2 _) Try.underlying30 rfl (by kernel_rfl)) rfl ?_
  refine ⟨_,_,_,rfl,?_,?_,?_,?_⟩
  ·exact Kd.R_lower (Kd.R_mono (Kd.R_move HV0.out (fun k hk=>hZ k (by have:=hk.2.1;omega) (by have:=hk.2.1;omega))) (fun k hk=>hk.1)) (by omega)
  ·exact Kd.R_lower (Kd.R_mono (Kd.R_move HV1.out (fun k hk=>hZ k (by have:=hk.2.1;omega) (by have:=hk.2.1;omega))) (fun k hk=>hk.1)) (by omega)
  ·exact Kd.R_lower (Kd.R_mono (Kd.R_move HV2.out (fun k hk=>hZ k (by have:=hk.2.1;omega) (by have:=hk.2.1;omega))) (fun _ _=>trivial)) (by omega)
  ·exact (((((HBw.out.setCell (p:=⟨w.heap.size,0,none⟩) (Nat.le_refl _) _).setCell (p:=⟨w.heap.size,1,none⟩) (Nat.le_refl _) _).setCell (p:=⟨w.heap.size,2,none⟩) (Nat.le_refl _) _).setCell (p:=⟨w.heap.size+1,0,none⟩) (by show w.heap.size≤w.heap.size+1;omega) _).setCell (p:=⟨w.heap.size+1,1,none⟩) (by show w.heap.size≤w.heap.size+1;omega) _).setCell (p:=⟨w.heap.size+1,2,none⟩) (by show w.heap.size≤w.heap.size+1;omega) _
 ·have tn:(l2=[])=True:=by apply eq_true;exact List.eq_nil_of_length_eq_zero h
  have t0:((0:Int) < (l2.length:Int))=False:=by apply eq_false;omega
  have t1:(l0.length:Int) < 2:=by omega
  clear h h2
  dsimp only
  go_wp2_with fail
  have hZ:∀ k,k≠w.heap.size→k≠w.heap.size+1→((((((w1.setCell ⟨w.heap.size,0,none⟩ (.slice a0 l0.length d0)).setCell ⟨w.heap.size,1,none⟩ (.slice a1 l1.length d1)).setCell ⟨w.heap.size,2,none⟩ (.slice a2 l2.length d2)).setCell ⟨w.heap.size+1,0,none⟩ (.slice a0 l0.length d0)).setCell ⟨w.heap.size+1,1,none⟩ (.slice a1 l1.length d1)).setCell ⟨w.heap.size+1,2,none⟩ (.slice a2 l2.length d2)).heap[k]?=w1.heap[k]?:=fun k h1 h2=>by
   rw [Below.heap_setCell _ _ _ _ h2,Below.heap_setCell _ _ _ _ h2,Below.heap_setCell _ _ _ _ h2,Below.heap_setCell _ _ _ _ h1,Below.heap_setCell _ _ _ _ h1,Below.heap_setCell _ _ _ _ h1]
  refine bodyPost_ret (results_cell_row rfl _ _ (w.heap.size+1) 30 #[.slice a0 l0.length d0,.slice a1 l1.length d1,.slice a2 l2.length d2] (0,0) _ rfl (blk_set (blk_set (blk_set (((Below.heap_setCell _ _ _ _ (by show w.heap.size+1≠w.heap.size;omega)).trans ((Below.heap_setCell _ _ _ _ (by show w.heap.size+1≠w.heap.size;omega)).trans (Below.heap_setCell _ _ _ _ (by show w.heap.size+1≠w.heap.size;omega)))).trans B2.out) 0 _) 1 _) 2 _) Try.underlying30 rfl (by kernel_rfl)) rfl ?_
  refine ⟨_,_,_,rfl,?_,?_,?_,?_⟩
  ·exact Kd.R_lower (Kd.R_mono (Kd.R_move HV0.out (fun k hk=>hZ k (by have:=hk.2.1;omega) (by have:=hk.2.1;omega))) (fun k hk=>hk.1)) (by omega)
  ·exact Kd.R_lower (Kd.R_mono (Kd.R_move HV1.out (fun k hk=>hZ k (by have:=hk.2.1;omega) (by have:=hk.2.1;omega))) (fun k hk=>hk.1)) (by omega)
  ·exact Kd.R_lower (Kd.R_mono (Kd.R_move HV2.out (fun k hk=>hZ k (by have:=hk.2.1;omega) (by have:=hk.2.1;omega))) (fun _ _=>trivial)) (by omega)
  ·exact (((((HBw.out.setCell (p:=⟨w.heap.size,0,none⟩) (Nat.le_refl _) _).setCell (p:=⟨w.heap.size,1,none⟩) (Nat.le_refl _) _).setCell (p:=⟨w.heap.size,2,none⟩) (Nat.le_refl _) _).setCell (p:=⟨w.heap.size+1,0,none⟩) (by show w.heap.size≤w.heap.size+1;omega) _).setCell (p:=⟨w.heap.size+1,1,none⟩) (by show w.heap.size≤w.heap.size+1;omega) _).setCell (p:=⟨w.heap.size+1,2,none⟩) (by show w.heap.size≤w.heap.size+1;omega) _
 ·have tn:(l2=[])=True:=by apply eq_true;exact List.eq_nil_of_length_eq_zero h
  have t0:((0:Int) < (l2.length:Int))=False:=by apply eq_false;omega
  have t1:¬ (l0.length:Int) < 2:=by omega
  have t2:(1:Int) < (l0.length:Int):=by omega
  obtain ⟨g,cells,hA,hbg,hgl,hok,hh,hx1,hx2⟩:=R_shape HV0.out (by omega) (by show 0 < 5;omega)
  subst hA
  obtain ⟨hy1,hy2,hC⟩:=Kd.R_reads' HV0.out
  obtain ⟨ad,ead,q0,_⟩:=at_T35 hC (1:Int) (by omega) (by omega)
  injection ead with ead
  subst ead
  have er:rdQ l0 (1:Int)=l0[1]:=by
   show l0.getD (1:Int).toNat z35=_
   rw [show (1:Int).toNat=1 from rfl,List.getD_eq_getElem?_getD,List.getElem?_eq_getElem h1];rfl
  rw [er] at q0
  simp only [Addr.add_lit,Nat.zero_add] at q0
  have q0':w1.cell? ⟨g,5,none⟩=some (.int .i64 (l0[1]).f0):=q0
  have hgne:g≠w.heap.size:=by have:=hok.2.1;omega
  have hgl':g < w1.heap.size:=hgl
  generalize (l0[1]).f0=o1 at q0' h2
  have t3:(o1 != 2)=true:=bne_iff_ne.mpr h2
  have t4:(o1 == 2)=false:=beq_eq_false_iff_ne.mpr h2
  clear h h2 hx1 hx2 hy1 hy2 hC q0 er hh hbg hok
  dsimp only
  go_wp2_with fail
  have hZ:∀ k,k≠w.heap.size→k≠w.heap.size+1→((((((w1.setCell ⟨w.heap.size,0,none⟩ (.slice (some ⟨g,0,none⟩) l0.length d0)).setCell ⟨w.heap.size,1,none⟩ (.slice a1 l1.length d1)).setCell ⟨w.heap.size,2,none⟩ (.slice a2 l2.length d2)).setCell ⟨w.heap.size+1,0,none⟩ (.slice (some ⟨g,0,none⟩) l0.length d0)).setCell ⟨w.heap.size+1,1,none⟩ (.slice a1 l1.length d1)).setCell ⟨w.heap.size+1,2,none⟩ (.slice a2 l2.length d2)).heap[k]?=w1.heap[k]?:=fun k h1 h2=>by
   rw [Below.heap_setCell _ _ _ _ h2,Below.heap_setCell _ _ _ _ h2,Below.heap_setCell _ _ _ _ h2,Below.heap_setCell _ _ _ _ h1,Below.heap_setCell _ _ _ _ h1,Below.heap_setCell _ _ _ _ h1]
  refine bodyPost_ret (results_cell_row rfl _ _ (w.heap.size+1) 30 #[.slice (some ⟨g,0,none⟩) l0.length d0,.slice a1 l1.length d1,.slice a2 l2.length d2] (0,0) _ rfl (blk_set (blk_set (blk_set (((Below.heap_setCell _ _ _ _ (by show w.heap.size+1≠w.heap.size;omega)).trans ((Below.heap_setCell _ _ _ _ (by show w.heap.size+1≠w.heap.size;omega)).trans (Below.heap_setCell _ _ _ _ (by show w.heap.size+1≠w.heap.size;omega)))).trans B2.out) 0 _) 1 _) 2 _) Try.underlying30 rfl (by kernel_rfl)) rfl ?_
  refine ⟨_,_,_,rfl,?_,?_,?_,?_⟩
  ·exact Kd.R_lower (Kd.R_mono (Kd.R_move HV0.out (fun k hk=>hZ k (by have:=hk.2.1;omega) (by have:=hk.2.1;omega))) (fun k hk=>hk.1)) (by omega)
  ·exact Kd.R_lower (Kd.R_mono (Kd.R_move HV1.out (fun k hk=>hZ k (by have:=hk.2.1;omega) (by have:=hk.2.1;omega))) (fun k hk=>hk.1)) (by omega)
  ·exact Kd.R_lower (Kd.R_mono (Kd.R_move HV2.out (fun k hk=>hZ k (by have:=hk.2.1;omega) (by have:=hk.2.1;omega))) (fun _ _=>trivial)) (by omega)
  ·exact (((((HBw.out.setCell (p:=⟨w.heap.size,0,none⟩) (Nat.le_refl _) _).setCell (p:=⟨w.heap.size,1,none⟩) (Nat.le_refl _) _).setCell (p:=⟨w.heap.size,2,none⟩) (Nat.le_refl _) _).setCell (p:=⟨w.heap.size+1,0,none⟩) (by show w.heap.size≤w.heap.size+1;omega) _).setCell (p:=⟨w.heap.size+1,1,none⟩) (by show w.heap.size≤w.heap.size+1;omega) _).setCell (p:=⟨w.heap.size+1,2,none⟩) (by show w.heap.size≤w.heap.size+1;omega) _
theorem wf_in {x:Int} (h:wfI x):-9223372036854775808≤x∧x≤9223372036854775807:=by
 have h:(decide (IntKind.i64.min≤x) && decide (x≤IntKind.i64.max))=true:=h
 rw [Bool.and_eq_true,decide_eq_true_eq,decide_eq_true_eq] at h
 exact h
structure TInv (w w1:World) (g d0:Nat) (a1:Option Addr) (d1:Nat) (ok0 ok1:Nat→Prop) (l0 l1:List S35) (R:List S37) (v:Value) (N:Nat) (W:World):Prop where
 below:Below w.heap.size w W
 size:w1.heap.size < W.heap.size
 b1:W.heap[w.heap.size]?=some (.cells #[.slice (some ⟨g,0,none⟩) l0.length d0,.slice a1 l1.length d1,v] 30 (0,0))
 b2:W.heap[w.heap.size+1]?=some (.cells #[.slice none 0 0,.slice none 0 0,.slice none 0 0] 30 (0,0))
 r0:Kd.R k35 35 W (w.heap.size+2) ok0 (.slice (some ⟨g,0,none⟩) l0.length d0) l0
 r1:Kd.R k35 35 W (w.heap.size+2) ok1 (.slice a1 l1.length d1) l1
 rr:Kd.R k37 37 W (w.heap.size+2) (fun _=>True) v R
 mp:SMap W w1.heap.size N (hasTag R)
section
variable {w w1:World} {g d0:Nat} {a1:Option Addr} {d1:Nat} {ok0 ok1:Nat→Prop} {l0 l1:List S35} {R:List S37} {v:Value} {N:Nat} {W:World}
theorem tabGo_ne {f:Nat}:∀ {R:List S37} {a:Nat},R≠[]→(tabGo l0 f R a).1≠[]:=by
 induction f with
 | zero=>intro R a h;exact h
 | succ f ih =>
  intro R a h
  have hadd:∀ t,addTag R t a≠[]:=fun t=>by unfold addTag;split;exact h;simp
  rw [tabGo]
  split
  ·split
   ·exact hadd _
   ·exact ih (hadd _)
  ·exact h
theorem once_inj {R:List S37} (h:Once R):∀ x ∈ R,∀ y ∈ R,x.f0=y.f0→x=y:=by
 induction R with
 | nil=>intro x hx;cases hx
 | cons z R ih =>
  have h':=List.pairwise_cons.1 h
  intro x hx y hy e
  rcases List.mem_cons.1 hx with ex | hx2 <;> rcases List.mem_cons.1 hy with ey | hy2
  ·rw [ex,ey]
  ·subst ex;exact absurd e (h'.1 y hy2)
  ·subst ey;exact absurd e.symm (h'.1 x hx2)
  ·exact ih h'.2 x hx2 y hy2 e
theorem TInv.alloc (h:TInv w w1 g d0 a1 d1 ok0 ok1 l0 l1 R v N W) (o:Obj):TInv w w1 g d0 a1 d1 ok0 ok1 l0 l1 R v N (W.alloc o) :=
 ⟨h.below.alloc h.below.size _,by have:=h.size;simp;omega,bk_a h.b1 _,bk_a h.b2 _,Kd.R_alloc h.r0 _,Kd.R_alloc h.r1 _,Kd.R_alloc h.rr _,h.mp.same (Below.heap_alloc _ _ _ h.mp.lt)⟩
theorem SMap.isMap {W:World} {b N:Nat} {S:Int→Bool} (h:SMap W b N S):∃ es c,W.heap[b]?=some (.map es c):=by
 obtain ⟨D,⟨es,clock,h1,h2⟩,r⟩:=h
 exact ⟨_,_,h1⟩
theorem TInv.kept (h:TInv w w1 g d0 a1 d1 ok0 ok1 l0 l1 R v N W) {ok:Nat→Prop} (hk:∀ k,ok k→k < w1.heap.size) {A:Option Addr} {n c:Nat} {xs:List S35} (hr:Kd.R k35 35 W (w.heap.size+2) ok (.slice A n c) xs) {w3 w5:World} {v3:Value}
  (hg:W.grownBy w3 v.ownBlock) (hg5:(w3.setCell ⟨w.heap.size,2,none⟩ v3).grownBy w5 (some w1.heap.size)):Kd.R k35 35 w5 (w.heap.size+2) ok (.slice A n c) xs:=by
 have h1:=Kd.R_bound hr
 refine Kd.R_mono (Kd.R_move h1 (fun k hq=>?_)) (fun k hq=>hq.1)
 have hlt:=hk k hq.1
 have h3:k < w3.heap.size:=Nat.lt_of_lt_of_le hq.2.2.1 hg.size
 rw [hg5.block k (by simpa [World.setCell] using h3) (fun e=>by injection e;omega),Below.heap_setCell _ _ _ _ (show k≠w.heap.size by have:=hq.2.1;omega),hg.block k hq.2.2.1 (fun e=>typed_ne hq.2.2.2 ((Kd.R_bound h.rr).1 _ e.symm).2.2.2)]
theorem TInv.push (h:TInv w w1 g d0 a1 d1 ok0 ok1 l0 l1 R v N W) (hk0:∀ k,ok0 k→k < w1.heap.size) (hk1:∀ k,ok1 k→k < w1.heap.size) (hz:w.heap.size+2≤w1.heap.size) {w3 w5:World} {v3:Value} {R':List S37} (ho:Kd.R k37 37 w3 (w.heap.size+2) (fun _=>True) v3 R') (hb:Below (w.heap.size+2) W w3) (hg:W.grownBy w3 v.ownBlock) (hg5:(w3.setCell ⟨w.heap.size,2,none⟩ v3).grownBy w5 (some w1.heap.size)) (hm:SMap w5 w1.heap.size (N+1) (hasTag R')) (hm3:∃ es c,w3.heap[w1.heap.size]?=some (.map es c)) :
  TInv w w1 g d0 a1 d1 ok0 ok1 l0 l1 R' v3 (N+1) w5:=by
 have hs:=h.size
 have hs3:=hg.size
 have hs5:=hg5.size
 have hss:(w3.setCell ⟨w.heap.size,2,none⟩ v3).heap.size=w3.heap.size:=by simp [World.setCell]
 refine ⟨?_,by omega,?_,?_,h.kept hk0 h.r0 hg hg5,h.kept hk1 h.r1 hg hg5,?_,hm⟩
 ·exact ((h.below.trans (hb.mono (by omega))).setCell (p:=⟨w.heap.size,2,none⟩) (Nat.le_refl _) _).grown hg5 (by rw [hss];omega) (fun k e=>by injection e;omega)
 ·exact blk_grown (blk_put ((hb.block w.heap.size (by omega)).trans h.b1) 2 v3 rfl) hg5 (fun e=>by injection e;omega)
 ·refine blk_grown ?_ hg5 (fun e=>by injection e;omega)
  rw [Below.heap_setCell _ _ _ _ (show w.heap.size+1≠w.heap.size by omega)]
  exact (hb.block _ (by omega)).trans h.b2
 ·have h1:=Kd.R_bound ho
  refine Kd.R_mono (Kd.R_move h1 (fun k hq=>?_)) (fun k hq=>trivial)
  rw [hg5.block k (by rw [hss];exact hq.2.2.1) (fun e=>?_),Below.heap_setCell _ _ _ _ (show k≠w.heap.size by have:=hq.2.1;omega)]
  injection e with e
  subst e
  obtain ⟨es,c,hm3⟩:=hm3
  obtain ⟨q,_,cs,hc⟩:=hq.2.2.2
  rw [hm3] at hc
  cases hc
end
set_option maxRecDepth 100000 in
set_option maxHeartbeats 2000000 in
theorem Tables_chain (A0:Option Addr) (c0:Nat) (l0:List S35) (A1:Option Addr) (c1:Nat) (l1:List S35) (A2:Option Addr) (c2:Nat) (l2:List S37) (w:World)
  (hr0:Kd.C k35 w A0 l0.length l0) (hc0:l0.length≤c0) (hr1:Kd.C k35 w A1 l1.length l1) (hc1:l1.length≤c1) (hr2:Kd.C k37 w A2 l2.length l2) (hc2:l2.length≤c2)
  (hf:fitB l0 l1 l2=true) (hw0:∀ x ∈ l0,wfS x) (hT:∀ x ∈ l0,x.f0=2→0≤x.f1∧x.f1≤4611686018427387904) (h2e:l2.length=0) (h0n:2≤l0.length) (h0t:(l0.getD 1 z35).f0=2) :
  Calls Try.prog 11 #[.agg #[.slice A0 l0.length c0,.slice A1 l1.length c1,.slice A2 l2.length c2]] w fun e w'=>∃ v0_ v1_ v2_:Value,e=.returned (.agg #[v0_,v1_,v2_])∧Kd.R k35 35 w' w.heap.size (fun k_=>some k_≠(v1_:Value).ownBlock) v0_ (l0.set 1 ⟨3,((tabGo l0 l0.length [] 1).2:Int),0,0,0⟩)∧Kd.R k35 35 w' w.heap.size (fun k_=>some k_≠(v0_:Value).ownBlock) v1_ l1∧Kd.R k37 37 w' w.heap.size (fun _=>True) v2_ (sortRows (tabGo l0 l0.length [] 1).1)∧Below w.heap.size w w':=by
 obtain rfl:l2=[]:=List.eq_nil_of_length_eq_zero h2e
 obtain ⟨f0,f1,f2⟩:=fitB_iff.1 hf
 have hcp:=copied_some f0 f1 f2
 go_enter Try.func11,Try.ntmps11
 have HR0:=Lib.hid hr0
 have HR1:=Lib.hid hr1
 have HR2:=Lib.hid hr2
 have HW0:=Lib.hid hw0
 have HT:=Lib.hid hT
 have HCP:=Lib.hid hcp
 have H0T:=Lib.hid h0t
 have hmm:=@run_makeMap Try.prog
 clear hr0 hr1 hr2 hw0 hT hcp h0t h2e
 go_wp2_with fail
 have hbA:Below w.heap.size w ((w.alloc (.cells #[.slice A0 l0.length c0,.slice A1 l1.length c1,.slice A2 0 c2] 30)).alloc (.cells #[.slice none 0 0,.slice none 0 0,.slice none 0 0] 30)):=((Below.refl _ _).alloc (Nat.le_refl _) _).alloc (by simp) _
 refine (opt_copied.calls A0 c0 l0 A1 c1 l1 A2 c2 [] l0 l1 [] _ (Kd.C_below HR0.out hbA) hc0 (Kd.C_below HR1.out hbA) hc1 (Kd.C_below HR2.out hbA) hc2 HCP.out).mono ?_
 rintro e w1 ⟨v0,v1,v2,rfl,hV0,hV1,hV2,hB1⟩
 have b1:w1.heap[w.heap.size]?=some (.cells #[.slice A0 l0.length c0,.slice A1 l1.length c1,.slice A2 0 c2] 30 (0,0)):=blk_below (bk_a (blk_new _ _) _) hB1
 have b2:w1.heap[w.heap.size+1]?=some (.cells #[.slice none 0 0,.slice none 0 0,.slice none 0 0] 30 (0,0)):=blk_below (by have:=blk_new (w.alloc (.cells #[.slice A0 l0.length c0,.slice A1 l1.length c1,.slice A2 0 c2] 30)) (.cells #[.slice none 0 0,.slice none 0 0,.slice none 0 0] 30);simpa using this) hB1
 have hBw:Below w.heap.size w w1:=hbA.trans (hB1.mono (by simp;omega))
 have n02:=own_ne_of_types hV0 hV2
 have n12:=own_ne_of_types hV1 hV2
 have hV0':=Kd.R_bound hV0
 have hV1':=Kd.R_bound hV1
 have hV2':=Kd.R_bound hV2
 simp only [World.size_alloc] at hV0' hV1' hV2'
 have z1:=hB1.size
 simp only [World.size_alloc] at z1
 have z1a:w.heap.size < w1.heap.size:=by omega
 have z1b:w.heap.size+1 < w1.heap.size:=by omega
 obtain ⟨a0,d0,e0⟩:=Kd.R_slice hV0'
 obtain ⟨a1,d1,e1⟩:=Kd.R_slice hV1'
 obtain ⟨a2,d2,e2⟩:=Kd.R_slice hV2'
 subst e0 e1 e2
 have B1:=Lib.hid b1
 have B2:=Lib.hid b2
 have HV0:=Lib.hid hV0'
 have HV1:=Lib.hid hV1'
 have HV2:=Lib.hid hV2'
 have HBw:=Lib.hid hBw
 have k1a:=bk_c b1 0
 have k1b:=bk_c b1 1
 have k1c:=bk_c b1 2
 have f1a:=bk_f b1 0
 have f1b:=bk_f b1 1
 have f1c:=bk_f b1 2
 simp only [List.getElem?_toArray,List.getElem?_cons_zero,List.getElem?_cons_succ] at k1a k1b k1c
 have N02:=Lib.hid n02
 have N12:=Lib.hid n12
 clear hbA hV0 hV1 hV2 hB1 b1 b2 hBw hV0' hV1' hV2' n02 n12
 obtain ⟨g,cells,hA,hbg,hgl,hok,hh,hx1,hx2⟩:=R_shape HV0.out (by omega) (by show 0 < 5;omega)
 subst hA
 obtain ⟨hy1,hy2,hC⟩:=Kd.R_reads' HV0.out
 obtain ⟨ad,ead,q0,_⟩:=at_T35 hC (1:Int) (by omega) (by omega)
 injection ead with ead
 subst ead
 have er:rdQ l0 (1:Int)=l0.getD 1 z35:=rfl
 rw [er] at q0
 simp only [Addr.add_lit,Nat.zero_add] at q0
 have q0':w1.cell? ⟨g,5,none⟩=some (.int .i64 (l0.getD 1 z35).f0):=q0
 rw [H0T.out] at q0'
 have hgne:g≠w.heap.size:=by have:=hok.2.1;omega
 have hgne2:g≠w.heap.size+1:=by have:=hok.2.1;omega
 have hgl':g < w1.heap.size:=hgl
 have t1:¬ (l0.length:Int) < 2:=by omega
 have t2:(1:Int) < (l0.length:Int):=by omega
 have HG:=Lib.hid hok
 clear hx1 hx2 hy1 hy2 hC q0 er hh hbg hok hgl
 dsimp only
 go_upto_block 0 with fail
 have hT0:∃ ok0 ok1:Nat→Prop,(∀ k,ok0 k→w.heap.size+2≤k∧k < w1.heap.size∧some k≠(Value.slice a1 l1.length d1).ownBlock)∧(∀ k,ok1 k→w.heap.size+2≤k∧k < w1.heap.size∧k≠g)∧TInv w w1 g d0 a1 d1 ok0 ok1 l0 l1 [] (.slice a2 0 d2) 0 ((((w1.setCell ⟨w.heap.size,0,none⟩ (.slice (some ⟨g,0,none⟩) l0.length d0)).setCell ⟨w.heap.size,1,none⟩ (.slice a1 l1.length d1)).setCell ⟨w.heap.size,2,none⟩ (.slice a2 0 d2)).alloc (.map #[] 0)):=by
  have hW:∀ k,k≠w.heap.size→(((w1.setCell ⟨w.heap.size,0,none⟩ (.slice (some ⟨g,0,none⟩) l0.length d0)).setCell ⟨w.heap.size,1,none⟩ (.slice a1 l1.length d1)).setCell ⟨w.heap.size,2,none⟩ (.slice a2 0 d2)).heap[k]?=w1.heap[k]?:=fun k h=>by
   rw [Below.heap_setCell _ _ _ _ h,Below.heap_setCell _ _ _ _ h,Below.heap_setCell _ _ _ _ h]
  have hb0:(((w1.setCell ⟨w.heap.size,0,none⟩ (.slice (some ⟨g,0,none⟩) l0.length d0)).setCell ⟨w.heap.size,1,none⟩ (.slice a1 l1.length d1)).setCell ⟨w.heap.size,2,none⟩ (.slice a2 0 d2)).heap[w.heap.size]?=some (.cells #[.slice (some ⟨g,0,none⟩) l0.length d0,.slice a1 l1.length d1,.slice a2 0 d2] 30 (0,0)):=blk_set (blk_set (blk_set B1.out 0 _) 1 _) 2 _
  have hbl:Below w.heap.size w (((w1.setCell ⟨w.heap.size,0,none⟩ (.slice (some ⟨g,0,none⟩) l0.length d0)).setCell ⟨w.heap.size,1,none⟩ (.slice a1 l1.length d1)).setCell ⟨w.heap.size,2,none⟩ (.slice a2 0 d2)):=((HBw.out.setCell (p:=⟨w.heap.size,0,none⟩) (Nat.le_refl _) _).setCell (p:=⟨w.heap.size,1,none⟩) (Nat.le_refl _) _).setCell (p:=⟨w.heap.size,2,none⟩) (Nat.le_refl _) _
  have hsz:(((w1.setCell ⟨w.heap.size,0,none⟩ (.slice (some ⟨g,0,none⟩) l0.length d0)).setCell ⟨w.heap.size,1,none⟩ (.slice a1 l1.length d1)).setCell ⟨w.heap.size,2,none⟩ (.slice a2 0 d2)).heap.size=w1.heap.size:=by simp [World.setCell]
  have hV0:=HV0.out
  have hV1:=HV1.out
  have hV2:=HV2.out
  obtain ⟨okA,hkA,hV0⟩:∃ ok0:Nat→Prop,(∀ k,ok0 k→w.heap.size+2≤k∧k < w1.heap.size∧some k≠(Value.slice a1 l1.length d1).ownBlock)∧Kd.R k35 35 w1 (w.heap.size+2) ok0 (.slice (some ⟨g,0,none⟩) l0.length d0) l0:=⟨_,fun k hk=>⟨hk.2.1,hk.2.2.1,hk.1⟩,hV0⟩
  obtain ⟨okB,hkB,hV1⟩:∃ ok1:Nat→Prop,(∀ k,ok1 k→w.heap.size+2≤k∧k < w1.heap.size∧k≠g)∧Kd.R k35 35 w1 (w.heap.size+2) ok1 (.slice a1 l1.length d1) l1:=⟨_,fun k hk=>⟨hk.2.1,hk.2.2.1,fun e=>hk.1 (by rw [e];rfl)⟩,hV1⟩
  refine ⟨okA,okB,hkA,hkB,?_⟩
  generalize (((w1.setCell ⟨w.heap.size,0,none⟩ (.slice (some ⟨g,0,none⟩) l0.length d0)).setCell ⟨w.heap.size,1,none⟩ (.slice a1 l1.length d1)).setCell ⟨w.heap.size,2,none⟩ (.slice a2 0 d2))=W at *
  have hm:=SMap.made W
  rw [hsz] at hm
  refine ⟨hbl.alloc (by omega) _,by rw [World.size_alloc,hsz];omega,bk_a hb0 _,bk_a ((hW _ (by omega)).trans B2.out) _,?_,?_,?_,by have e:hasTag []=fun _=>false:=(by funext x;rfl);rw [e];exact hm⟩
  ·exact Kd.R_alloc (Kd.R_move hV0 (fun k hk=>hW k (by have:=(hkA k hk).1;omega))) _
  ·exact Kd.R_alloc (Kd.R_move hV1 (fun k hk=>hW k (by have:=(hkB k hk).1;omega))) _
  ·exact Kd.R_mono (Kd.R_alloc (Kd.R_move hV2 (fun k hk=>hW k (by have:=hk.2.1;omega))) _) (fun _ _=>trivial)
 obtain ⟨ok0,ok1,hk0,hk1,hT0⟩:=hT0
 have HT0:=Lib.hid hT0
 have HK0:=Lib.hid hk0
 have HK1:=Lib.hid hk1
 clear hT0 hk0 hk1
 go_cut [4] (fun v4 wc=>∃ (R:List S37) (a N:Nat) (v:Value),v4=.int .i64 (a:Int)∧Hid (tabGo l0 l0.length [] 1=(R,a))∧Hid (1≤a∧N≤l0.length∧R.length≤l0.length)∧Hid (TInv w w1 g d0 a1 d1 ok0 ok1 l0 l1 R v N wc)∧Hid (∀ x ∈ R,0≤x.f0∧x.f0≤4611686018427387904)∧Hid (Once R))
 case first =>
  clear k1a k1b k1c f1a f1b f1c q0'
  go_wp2_with fail
  go_loopw [4] (fun s4 wl=>∃ (R:List S37) (a N f:Nat) (v:Value),s4=.int .i64 (a:Int)∧1≤a∧a≤9223372036854775807∧N < a∧R.length < a∧(R.length≤l0.length)∧(N≤l0.length)∧Hid (a < l0.length→l0.length < a+f)∧Hid (tabGo l0 l0.length [] 1=tabGo l0 f R a)∧Hid (TInv w w1 g d0 a1 d1 ok0 ok1 l0 l1 R v N wl)∧Hid (∀ x ∈ R,0≤x.f0∧x.f0≤4611686018427387904)∧Hid (Once R)) (fun s4 _=>l0.length - (intOf s4).toNat)
  case atStart=>exact ⟨[],1,0,l0.length,_,rfl,Nat.le_refl _,by omega,Nat.zero_lt_one,Nat.zero_lt_one,Nat.zero_le _,Nat.zero_le _,fun _=>by omega,rfl,HT0.out,fun x hx=>absurd hx (List.not_mem_nil),List.Pairwise.nil⟩
  case round =>
   obtain ⟨R,a,N,f,v,rfl,ha1,ham,hNa,hRa,hRl,hNl,HF,HG2,HI,HTG,HPW⟩:=hrel
   by_cases hlt:a < l0.length
   ·have hltz:(a:Int) < (l0.length:Int):=by omega
    have I:=HI.out
    have hgl:=blk_lt I.b1
    have kA:=bk_c I.b1 0
    have kC:=bk_c I.b1 2
    have fC:=bk_f I.b1 2
    simp only [List.getElem?_toArray,List.getElem?_cons_zero,List.getElem?_cons_succ] at kA kC
    obtain ⟨hy1,hy2,hC⟩:=Kd.R_reads' I.r0
    obtain ⟨ad,ead,q0,q1,q2,q3,q4⟩:=at_T35 hC (a:Int) (by omega) (by omega)
    injection ead with ead
    subst ead
    have hxm:∀ P:S35→Prop,(∀ x ∈ l0,P x)→P (l0.getD a z35):=fun P hP=>by
     rw [List.getD_eq_getElem?_getD,List.getElem?_eq_getElem hlt];exact hP _ (List.getElem_mem hlt)
    have hwk:(Lit.int .i64 (l0.getD a z35).f1).wf=true:=(hxm wfS HW0.out).1
    have HTx:=Lib.hid (hxm _ HT.out)
    have er:rdQ l0 (a:Int)=l0.getD a z35:=rfl
    have HTG1:Hid (∀ f',f=f'+1→tabGo l0 f R a=if (l0.getD a z35).f0=2 then if (l0.getD a z35).f2≤(a:Int) then (addTag R (l0.getD a z35).f1 a,a) else tabGo l0 f' (addTag R (l0.getD a z35).f1 a) (l0.getD a z35).f2.toNat else (R,a)):=by
     intro f' e
     subst e
     rw [tabGo]
     by_cases h:(l0.getD a z35).f0=2
     ·rw [if_pos ⟨hlt,h⟩,if_pos h]
     ·rw [if_neg (fun q=>h q.2),if_neg h]
    have hwf2:wfI (l0.getD a z35).f2:=(hxm wfS HW0.out).2
    rw [er] at q0 q1 q2 q3 q4
    simp only [Int.toNat_natCast,Nat.zero_add,Addr.add_lit] at q0 q1 q2 q3 q4
    generalize l0.getD a z35=x at q0 q1 q2 q3 q4 hwk HTx HTG1 hwf2
    have hgx:=World.block_lt_of_cell? _ _ q0
    clear hxm er hy1 hy2 hC
    by_cases hx2:x.f0=2
    ·rw [hx2] at q0
     have HLK:=Lib.hid ((I.alloc (.cells #[.int .i64 2,.int .i64 x.f1,.int .i64 x.f2,.int .i64 x.f3,.int .i64 x.f4] 35)).mp.look x.f1 hwk)
     have HI:=Lib.hid I
     have HX2:=Lib.hid hx2
     clear I hx2
     obtain ⟨f',rfl⟩:∃ f',f=f'+1:=⟨f - 1,by have:=HF.out hlt;omega⟩
     have htg:=HTG1.out f' rfl
     rw [if_pos HX2.out] at htg
     have hxb:=wf_in hwf2
     have hnew:(∀ y ∈ addTag R x.f1 a,0≤y.f0∧y.f0≤4611686018427387904)∧Once (addTag R x.f1 a):=⟨fun y hy=>by
      unfold addTag at hy
      split at hy
      ·exact HTG.out y hy
      ·rcases List.mem_append.1 hy with hy | hy
       ·exact HTG.out y hy
       ·simp only [List.mem_singleton] at hy;subst hy;exact HTx.out HX2.out,once_add HPW.out _ _⟩
     have HNEW:=Lib.hid hnew
     cases ht:hasTag R x.f1 with
     | true =>
      have hlk:=HLK.out
      rw [ht] at hlk
      have hadd:addTag R x.f1 a=R:=by unfold addTag;rw [if_pos ht]
      rw [hadd] at htg
      clear ht hadd
      by_cases hle:x.f2≤(a:Int)
      ·rw [if_pos hle] at htg
       have HTE:=Lib.hid (HG2.out.trans htg)
       clear htg hnew
       go_wp2_with fail
       go_meet
       exact ⟨R,a,N,v,rfl,HTE.out,⟨ha1,hNl,hRl⟩,(HI.out.alloc _).alloc _,HTG.out,HPW.out⟩
      ·rw [if_neg hle] at htg
       have HTE:=Lib.hid (HG2.out.trans htg)
       clear htg hnew
       have hle2:(a:Int) < x.f2:=by omega
       clear hle
       go_wp2_with fail
       refine ⟨⟨R,x.f2.toNat,N,f',v,by rw [Int.toNat_of_nonneg (by omega)],by omega,by omega,by omega,by omega,hRl,hNl,fun _=>by have:=HF.out hlt;omega,HTE.out,(HI.out.alloc _).alloc _,HTG.out,HPW.out⟩,by simp [intOf];omega⟩
     | false =>
      have hlk:=HLK.out
      rw [ht] at hlk
      have hadd:addTag R x.f1 a=R ++ [⟨x.f1,(a:Int)+1⟩]:=by unfold addTag;rw [if_neg (by simp [ht])]
      have hmap:(fun y=>y == x.f1 || hasTag R y)=hasTag (addTag R x.f1 a):=by funext y;rw [hasTag_add]
      obtain ⟨Av,cv,ev⟩:=Kd.R_slice HI.out.rr
      subst ev
      have I2:=((HI.out.alloc (.cells #[.int .i64 2,.int .i64 x.f1,.int .i64 x.f2,.int .i64 x.f3,.int .i64 x.f4] 35)).alloc (.cells #[] 49))
      have HO2:=Lib.hid I2.rr
      have hs2:=I2.size
      simp only [World.size_alloc] at hs2
      have HI2:=Lib.hid I2
      have HADD:=Lib.hid hadd
      have HMAP:=Lib.hid hmap
      have HHT:=Lib.hid ht
      have hrb:(R.length+1)*16≤140737488355328:=by omega
      clear hadd hmap I2 ht hnew
      by_cases hle:x.f2≤(a:Int)
      ·rw [if_pos hle] at htg
       have HTE:=Lib.hid (HG2.out.trans htg)
       clear htg
       have hnb:∀ k,(Value.slice Av R.length cv).ownBlock=some k→w.heap.size+2≤k∧k < wr.heap.size∧k≠w1.heap.size:=fun k e=>by
        have h1:=(Kd.R_bound HI.out.rr).1 k e
        refine ⟨h1.2.1,h1.2.2.1,fun e2=>?_⟩
        obtain ⟨es,c,hmm3⟩:=HI.out.mp.isMap
        obtain ⟨q,_,cs,hc⟩:=h1.2.2.2
        rw [e2,hmm3] at hc
        cases hc
       have HNB:=Lib.hid hnb
       clear hnb
       have hwz:wr.heap.size≠w.heap.size:=by omega
       have hs1:=HI.out.size
       go_wp2_with (first | ((with_reducible refine gate_builtin (b:=.append) (xs:=#[.tmp 59,.tmp 65]) rfl ?_);at_builtin;go_loud (refine Kd.R_append k37 (w.heap.size+2) rfl (.tmp 59) (.tmp 65) 28 37 (.agg #[(.int .i64 0),(.int .i64 0)]) 16 rfl Try.underlying28 info37 rfl (by decide) (by omega) (.slice Av R.length cv) R ⟨x.f1,(a:Int)+1⟩ [.int .i64 x.f1,.int .i64 ((a:Int)+1)] (fun _=>True) (fun _=>False) rfl (show Value.slice (some ⟨wr.heap.size+1+1,0,none⟩) 1 1=_ by simp) (k37_mkM _ _ _ ⟨x.f1,(a:Int)+1⟩) (fun _ hk=>hk.elim) (fun _ _=>trivial) HO2.out (Below.refl _ _) (by simp;omega) hrb ?_);intro v3 w3 ho3 hb3 hg3 hat3;obtain ⟨A3,c3,e3⟩:=Kd.R_slice ho3;rw [List.length_append,List.length_singleton] at e3;subst e3;have bX:=blk_grown (bk_a (blk_new wr (.cells #[.int .i64 2,.int .i64 x.f1,.int .i64 x.f2,.int .i64 x.f3,.int .i64 x.f4] 35)) (.cells #[] 49)) hg3 (fun e_=>by have:=(HNB.out _ e_.symm).2.1;omega);have bS:=blk_grown HI2.out.b1 hg3 (fun e_=>by have:=(HNB.out _ e_.symm).1;omega);have y1:=bk_c bX 1;have y2:=bk_c bX 2;have s2:=bk_c bS 2;have s3:=bk_f bS 2;simp only [List.getElem?_toArray,List.getElem?_cons_zero,List.getElem?_cons_succ] at y1 y2 s2;have HM3:=Lib.hid (HI2.out.mp.same (W':=w3.setCell ⟨w.heap.size,2,none⟩ (.slice A3 (R.length+1) c3)) ((Below.heap_setCell _ _ _ _ (show w1.heap.size≠w.heap.size by omega)).trans (hg3.block _ HI2.out.mp.lt (fun e_=>(HNB.out _ e_.symm).2.2 rfl))));have hz3:=hg3.size;simp only [World.size_alloc] at hz3;have HO3:=Lib.hid ho3;have HB3:=Lib.hid hb3;have HG3:=Lib.hid hg3;have HBX:=Lib.hid bX;clear ho3 hb3 hg3 hat3 bX bS;obtain ⟨D,hown,hisM,hfD⟩:=HM3.out;have HPUT:=Lib.hid (fun W'=>SMap.put_law (W':=W') (b:=w1.heap.size) (N:=N) x.f1 hisM hfD);clear hisM hfD) | (at_mapUpdate;go_loud (refine wpList_mapUpdate_own _ rfl _ _ _ 48 rfl 3 49 law3 Try.underlying48 _ w1.heap.size N D rfl hown (by unfold maxLen;omega) _ _ (.int .i64 x.f1) rfl rfl (keyOf_int_mk Try.underlying3 hwk) (.agg []) [] unitElem_mk ?_);intro w5 hown5 hg5;have HM5:=Lib.hid (HPUT.out _ hown5);have HG5:=Lib.hid hg5;have bX5:=blk_grown ((Below.heap_setCell _ _ _ _ hwz).trans HBX.out) hg5 (fun e_=>by injection e_;omega);have z2:=bk_c bX5 2;simp only [List.getElem?_toArray,List.getElem?_cons_zero,List.getElem?_cons_succ] at z2;clear hown5 hg5 bX5))
       go_meet
       exact ⟨_,a,N+1,_,rfl,HTE.out,⟨ha1,by omega,by rw [HADD.out,List.length_append,List.length_singleton];omega⟩,HI2.out.push (fun k hk=>(HK0.out k hk).2.1) (fun k hk=>(HK1.out k hk).2.1) z1 (by rw [HADD.out];exact HO3.out) HB3.out HG3.out HG5.out (by rw [← HMAP.out];exact HM5.out) (by obtain ⟨es,c,h⟩:=HM3.out.isMap;exact ⟨es,c,(Below.heap_setCell _ _ _ _ (show w1.heap.size≠w.heap.size by omega)).symm.trans h⟩),HNEW.out⟩
      ·rw [if_neg hle] at htg
       have HTE:=Lib.hid (HG2.out.trans htg)
       clear htg
       have hle2:(a:Int) < x.f2:=by omega
       clear hle
       have hnb:∀ k,(Value.slice Av R.length cv).ownBlock=some k→w.heap.size+2≤k∧k < wr.heap.size∧k≠w1.heap.size:=fun k e=>by
        have h1:=(Kd.R_bound HI.out.rr).1 k e
        refine ⟨h1.2.1,h1.2.2.1,fun e2=>?_⟩
        obtain ⟨es,c,hmm3⟩:=HI.out.mp.isMap
        obtain ⟨q,_,cs,hc⟩:=h1.2.2.2
        rw [e2,hmm3] at hc
        cases hc
       have HNB:=Lib.hid hnb
       clear hnb
       have hwz:wr.heap.size≠w.heap.size:=by omega
       have hs1:=HI.out.size
       go_wp2_with (first | ((with_reducible refine gate_builtin (b:=.append) (xs:=#[.tmp 59,.tmp 65]) rfl ?_);at_builtin;go_loud (refine Kd.R_append k37 (w.heap.size+2) rfl (.tmp 59) (.tmp 65) 28 37 (.agg #[(.int .i64 0),(.int .i64 0)]) 16 rfl Try.underlying28 info37 rfl (by decide) (by omega) (.slice Av R.length cv) R ⟨x.f1,(a:Int)+1⟩ [.int .i64 x.f1,.int .i64 ((a:Int)+1)] (fun _=>True) (fun _=>False) rfl (show Value.slice (some ⟨wr.heap.size+1+1,0,none⟩) 1 1=_ by simp) (k37_mkM _ _ _ ⟨x.f1,(a:Int)+1⟩) (fun _ hk=>hk.elim) (fun _ _=>trivial) HO2.out (Below.refl _ _) (by simp;omega) hrb ?_);intro v3 w3 ho3 hb3 hg3 hat3;obtain ⟨A3,c3,e3⟩:=Kd.R_slice ho3;rw [List.length_append,List.length_singleton] at e3;subst e3;have bX:=blk_grown (bk_a (blk_new wr (.cells #[.int .i64 2,.int .i64 x.f1,.int .i64 x.f2,.int .i64 x.f3,.int .i64 x.f4] 35)) (.cells #[] 49)) hg3 (fun e_=>by have:=(HNB.out _ e_.symm).2.1;omega);have bS:=blk_grown HI2.out.b1 hg3 (fun e_=>by have:=(HNB.out _ e_.symm).1;omega);have y1:=bk_c bX 1;have y2:=bk_c bX 2;have s2:=bk_c bS 2;have s3:=bk_f bS 2;simp only [List.getElem?_toArray,List.getElem?_cons_zero,List.getElem?_cons_succ] at y1 y2 s2;have HM3:=Lib.hid (HI2.out.mp.same (W':=w3.setCell ⟨w.heap.size,2,none⟩ (.slice A3 (R.length+1) c3)) ((Below.heap_setCell _ _ _ _ (show w1.heap.size≠w.heap.size by omega)).trans (hg3.block _ HI2.out.mp.lt (fun e_=>(HNB.out _ e_.symm).2.2 rfl))));have hz3:=hg3.size;simp only [World.size_alloc] at hz3;have HO3:=Lib.hid ho3;have HB3:=Lib.hid hb3;have HG3:=Lib.hid hg3;have HBX:=Lib.hid bX;clear ho3 hb3 hg3 hat3 bX bS;obtain ⟨D,hown,hisM,hfD⟩:=HM3.out;have HPUT:=Lib.hid (fun W'=>SMap.put_law (W':=W') (b:=w1.heap.size) (N:=N) x.f1 hisM hfD);clear hisM hfD) | (at_mapUpdate;go_loud (refine wpList_mapUpdate_own _ rfl _ _ _ 48 rfl 3 49 law3 Try.underlying48 _ w1.heap.size N D rfl hown (by unfold maxLen;omega) _ _ (.int .i64 x.f1) rfl rfl (keyOf_int_mk Try.underlying3 hwk) (.agg []) [] unitElem_mk ?_);intro w5 hown5 hg5;have HM5:=Lib.hid (HPUT.out _ hown5);have HG5:=Lib.hid hg5;have bX5:=blk_grown ((Below.heap_setCell _ _ _ _ hwz).trans HBX.out) hg5 (fun e_=>by injection e_;omega);have z2:=bk_c bX5 2;simp only [List.getElem?_toArray,List.getElem?_cons_zero,List.getElem?_cons_succ] at z2;clear hown5 hg5 bX5))
       refine ⟨⟨_,x.f2.toNat,N+1,f',_,by rw [Int.toNat_of_nonneg (by omega)],by omega,by omega,by omega,by rw [HADD.out,List.length_append,List.length_singleton];omega,by rw [HADD.out,List.length_append,List.length_singleton];omega,by omega,fun _=>by have:=HF.out hlt;omega,HTE.out,HI2.out.push (fun k hk=>(HK0.out k hk).2.1) (fun k hk=>(HK1.out k hk).2.1) z1 (by rw [HADD.out];exact HO3.out) HB3.out HG3.out HG5.out (by rw [← HMAP.out];exact HM5.out) (by obtain ⟨es,c,h⟩:=HM3.out.isMap;exact ⟨es,c,(Below.heap_setCell _ _ _ _ (show w1.heap.size≠w.heap.size by omega)).symm.trans h⟩),HNEW.out⟩,by simp [intOf];omega⟩
    ·have hb:(x.f0 == 2)=false:=beq_eq_false_iff_ne.mpr hx2
     obtain ⟨f',rfl⟩:∃ f',f=f'+1:=⟨f - 1,by have:=HF.out hlt;omega⟩
     have htg:=HTG1.out f' rfl
     rw [if_neg hx2] at htg
     have HTE:=Lib.hid (HG2.out.trans htg)
     have HI:=Lib.hid I
     clear htg hx2 I
     go_wp2_with fail
     go_meet
     exact ⟨R,a,N,v,rfl,HTE.out,⟨ha1,hNl,hRl⟩,HI.out,HTG.out,HPW.out⟩
   ·have hltz:¬ (a:Int) < (l0.length:Int):=by omega
    have I:=HI.out
    have hgl:=blk_lt I.b1
    have kA:=bk_c I.b1 0
    simp only [List.getElem?_toArray,List.getElem?_cons_zero,List.getElem?_cons_succ] at kA
    have htg:tabGo l0 f R a=(R,a):=by
     cases f with
     | zero=>rfl
     | succ f=>rw [tabGo,if_neg (fun q=>hlt q.1)]
    have HTE:=Lib.hid (HG2.out.trans htg)
    clear htg I
    go_wp2_with fail
    go_meet
    exact ⟨R,a,N,v,rfl,HTE.out,⟨ha1,hNl,hRl⟩,HI.out,HTG.out,HPW.out⟩
 case rest =>
  obtain ⟨R,a,N,v,rfl,HTE,HB,HI,HTG,HPW⟩:=hcut
  have hR0:0 < R.length:=by
   have h1:(tabGo l0 l0.length [] 1).1≠[]:=by
    obtain ⟨n,hn⟩:∃ n,l0.length=n+1:=⟨l0.length - 1,by omega⟩
    conv=>lhs;rw [hn]
    rw [tabGo,if_pos ⟨by omega,H0T.out⟩]
    have hadd:∀ t,addTag [] t 1≠[]:=fun t=>by unfold addTag;split <;> simp_all [hasTag]
    split
    ·exact hadd _
    ·exact tabGo_ne (hadd _)
   rw [HTE.out] at h1
   exact List.length_pos_iff.2 h1
  obtain ⟨Av,cv,ev⟩:=Kd.R_slice HI.out.rr
  subst ev
  have I:=HI.out
  have hgl:=blk_lt I.b1
  have kA:=bk_c I.b1 0
  have kB:=bk_c I.b1 1
  have kC:=bk_c I.b1 2
  simp only [List.getElem?_toArray,List.getElem?_cons_zero,List.getElem?_cons_succ] at kA kB kC
  have HI:=Lib.hid I
  clear I k1a k1b k1c f1a f1b f1c q0'
  go_wp2_with fail
  refine (sort_calls HI.out.rr hR0 (by have:=HB.out.2.2;omega) HTG.out (once_inj HPW.out)).mono ?_
  rintro e w3 ⟨rfl,hs1,hs2,hs3⟩
  dsimp only
  have hown:∀ k,(Value.slice Av R.length cv).ownBlock=some k→w.heap.size+2≤k∧∃ q,q ∈ 37 :: k37.E∧∃ cells,wc.heap[k]?=some (.cells cells q (0,0)):=fun k e=>by
   have h1:=(Kd.R_bound HI.out.rr).1 k e
   exact ⟨h1.2.1,h1.2.2.2⟩
  have zc:=HI.out.size
  have z3:=hs2.size
  have c1':=(hs3 w.heap.size (by omega) (fun e=>by have:=(hown _ e.symm).1;omega)).trans HI.out.b1
  have c2':=(hs3 (w.heap.size+1) (by omega) (fun e=>by have:=(hown _ e.symm).1;omega)).trans HI.out.b2
  have hV0c:=Kd.R_mono (Kd.R_move (Kd.R_bound HI.out.r0) (w1:=w3) (fun k hk=>hs3 k hk.2.2.1 (fun e=>typed_ne hk.2.2.2 (hown _ e.symm).2))) (fun _ hk=>hk.1)
  have hV1c:=Kd.R_mono (Kd.R_move (Kd.R_bound HI.out.r1) (w1:=w3) (fun k hk=>hs3 k hk.2.2.1 (fun e=>typed_ne hk.2.2.2 (hown _ e.symm).2))) (fun _ hk=>hk.1)
  have hBc:Below w.heap.size w w3:=HI.out.below.trans (hs2.mono (by omega))
  obtain ⟨ce,hce1,_,hce2,hce3⟩:=Kd.R_elem hV0c z35 (1:Int) (by omega) (by omega)
  have hdrop:ce.take 0 ++ [Value.int .i64 3,.int .i64 (a:Int),.int .i64 0,.int .i64 0,.int .i64 0] ++ ce.drop (0+5)=[.int .i64 3,.int .i64 (a:Int),.int .i64 0,.int .i64 0,.int .i64 0]:=by
   rw [List.drop_eq_nil_of_le (by rw [hce1];show 5≤0+5;omega)];simp
  have HDR:=Lib.hid hdrop
  have HCE:=Lib.hid hce2
  have HCL:=Lib.hid hce1
  have HS1:=Lib.hid hs1
  have HV0c:=Lib.hid hV0c
  have HV1c:=Lib.hid hV1c
  have HBc:=Lib.hid hBc
  have C1:=Lib.hid c1'
  have C2:=Lib.hid c2'
  have k3a:=bk_c c1' 0
  have k3b:=bk_c c1' 1
  have k3c:=bk_c c1' 2
  simp only [List.getElem?_toArray,List.getElem?_cons_zero,List.getElem?_cons_succ] at k3a k3b k3c
  have z3a:w.heap.size+1 < w3.heap.size:=by omega
  have hab:=HB.out
  clear hs1 hs2 hs3 hown c1' c2' hV0c hV1c hBc hdrop hce1 hce2 hce3 kA kB kC
  go_wp2_with (first | ((with_reducible refine gate_store (t:=35) (p:=85) rfl ?_);go_loud (refine Kd.R_store k35 (w0:=w) w.heap.size rfl rfl 35 (.tmp 85) (.tmp 84) rfl 35 (1:Int) 0 l0 ⟨3,(a:Int),0,0,0⟩ (.agg #[.int .i64 3,.int .i64 (a:Int),.int .i64 0,.int .i64 0,.int .i64 0]) [.int .i64 3,.int .i64 (a:Int),.int .i64 0,.int .i64 0,.int .i64 0] ce ok0 (fun _=>False) rfl (by rfl) rfl rfl (by kernel_rfl) (ones5 ⟨3,(a:Int),0,0,0⟩) (Kd.R_lower HV0c.out (by omega)) (by omega) (by omega) HCL.out HCE.out (by show 0+5≤5;omega) (by rw [show ([Value.int .i64 3,.int .i64 (a:Int),.int .i64 0,.int .i64 0,.int .i64 0]:List Value).length=5 from rfl,HDR.out];exact k35_mkM _ _ _ ⟨3,(a:Int),0,0,0⟩) (fun _ hk=>hk.elim) HBc.out ?_);go_loud (intro w4 hs4 hb4 hg4;have HS4:=Lib.hid hs4;have HB4:=Lib.hid hb4;have HG4:=Lib.hid hg4;have hz4:=hg4.size;have b4:=blk_grown C1.out hg4 (fun e_=>by injection e_;omega);have y0:=bk_c b4 0;have y1:=bk_c b4 1;have y2:=bk_c b4 2;simp only [List.getElem?_toArray,List.getElem?_cons_zero,List.getElem?_cons_succ] at y0 y1 y2;clear hs4 hb4 hg4 b4)))
  have hsl:(l0.set 1 (⟨3,(a:Int),0,0,0⟩:S35)).length=l0.length:=List.length_set
  have hrl:(sortRows R).length=R.length:=sortRows_len R
  have c4:=blk_grown C1.out HG4.out (fun e_=>by injection e_;omega)
  have c4':=blk_grown C2.out HG4.out (fun e_=>by injection e_;omega)
  obtain ⟨n0,m0,hC0⟩:=Kd.R_reads' HS4.out
  obtain ⟨n1,m1,hC1⟩:=Kd.R_reads' (Kd.R_move HV1c.out (w1:=w4) (fun k hk=>HG4.out.block k (by have:=(HK1.out k hk).2.1;omega) (fun e=>by injection e with e;exact (HK1.out k hk).2.2 e)))
  obtain ⟨n2,m2,hC2⟩:=Kd.R_reads' (Kd.R_move (Kd.R_bound HS1.out) (w1:=w4) (fun k hk=>HG4.out.block k hk.2.2.1 (fun e=>by
   injection e with e
   subst e
   obtain ⟨_,_,_,q,hq,cs,hc⟩:=(Kd.R_bound HV0c.out).1 k rfl
   exact typed_ne ⟨q,hq,cs,hc⟩ hk.2.2.2)))
  have hcall:=opt_copied.calls (some ⟨g,0,none⟩) d0 (l0.set 1 ⟨3,(a:Int),0,0,0⟩) a1 d1 l1 Av cv (sortRows R) (l0.set 1 ⟨3,(a:Int),0,0,0⟩) l1 (sortRows R) w4 hC0 (by rw [hsl];exact m0) hC1 m1 hC2 (by rw [hrl];exact m2) (copied_some (by rw [hsl];exact f0) f1 (by rw [hrl];have:=HB.out.2.2;omega))
  rw [hsl,hrl] at hcall
  refine hcall.mono ?_
  clear hcall hC0 hC1 hC2 m0 m1 m2 n0 n1 n2
  rintro e w5 ⟨v0,v1,v2,rfl,hD0,hD1,hD2,hb5⟩
  have z5:=hb5.size
  have d5:=blk_below c4 hb5
  have d5':=blk_below c4' hb5
  have hB5:Below w.heap.size w w5:=HB4.out.trans (hb5.mono (by omega))
  obtain ⟨p0,q0,e0⟩:=Kd.R_slice hD0
  obtain ⟨p1,q1,e1⟩:=Kd.R_slice hD1
  obtain ⟨p2,q2,e2⟩:=Kd.R_slice hD2
  rw [hsl] at e0
  rw [hrl] at e2
  subst e0 e1 e2
  have HD0:=Lib.hid (Kd.R_bound hD0)
  have HD1:=Lib.hid (Kd.R_bound hD1)
  have HD2:=Lib.hid (Kd.R_bound hD2)
  have HB5:=Lib.hid hB5
  have C5':=Lib.hid d5'
  have HFIN:=Lib.hid HTE.out
  have r5a:=bk_c d5' 0
  have r5b:=bk_c d5' 1
  have r5c:=bk_c d5' 2
  have g5a:=bk_f d5' 0
  have g5b:=bk_f d5' 1
  have g5c:=bk_f d5' 2
  simp only [List.getElem?_toArray,List.getElem?_cons_zero,List.getElem?_cons_succ] at r5a r5b r5c
  have z5b:w.heap.size+1 < w5.heap.size:=by omega
  clear hD0 hD1 hD2 hb5 d5 d5' hB5 c4 c4' y0 y1 y2 k3a k3b k3c hsl hrl
  dsimp only
  go_wp2_with fail
  have hZ:∀ k,k≠w.heap.size+1→(((w5.setCell ⟨w.heap.size+1,0,none⟩ (.slice p0 l0.length q0)).setCell ⟨w.heap.size+1,1,none⟩ (.slice p1 l1.length q1)).setCell ⟨w.heap.size+1,2,none⟩ (.slice p2 R.length q2)).heap[k]?=w5.heap[k]?:=fun k h2=>by
   rw [Below.heap_setCell _ _ _ _ h2,Below.heap_setCell _ _ _ _ h2,Below.heap_setCell _ _ _ _ h2]
  refine bodyPost_ret (results_cell_row rfl _ _ (w.heap.size+1) 30 #[.slice p0 l0.length q0,.slice p1 l1.length q1,.slice p2 R.length q2] (0,0) _ rfl (blk_set (blk_set (blk_set C5'.out 0 _) 1 _) 2 _) Try.underlying30 rfl (by kernel_rfl)) rfl ?_
  rw [HFIN.out]
  refine ⟨_,_,_,rfl,?_,?_,?_,?_⟩
  ·exact Kd.R_lower (Kd.R_mono (Kd.R_move HD0.out (fun k hk=>hZ k (by have:=hk.2.1;omega))) (fun k hk=>hk.1)) (by omega)
  ·exact Kd.R_lower (Kd.R_mono (Kd.R_move HD1.out (fun k hk=>hZ k (by have:=hk.2.1;omega))) (fun k hk=>hk.1)) (by omega)
  ·exact Kd.R_lower (Kd.R_mono (Kd.R_move HD2.out (fun k hk=>hZ k (by have:=hk.2.1;omega))) (fun _ _=>trivial)) (by omega)
  ·exact (((HB5.out.setCell (p:=⟨w.heap.size+1,0,none⟩) (by show w.heap.size≤w.heap.size+1;omega) _).setCell (p:=⟨w.heap.size+1,1,none⟩) (by show w.heap.size≤w.heap.size+1;omega) _).setCell (p:=⟨w.heap.size+1,2,none⟩) (by show w.heap.size≤w.heap.size+1;omega) _)
set_option maxRecDepth 100000 in
set_option maxHeartbeats 2000000 in
theorem Trim_empty (A0:Option Addr) (c0:Nat) (l0:List S35) (A1:Option Addr) (c1:Nat) (l1:List S35) (A2:Option Addr) (c2:Nat) (l2:List S37) (w:World)
  (hr0:Kd.C k35 w A0 l0.length l0) (hc0:l0.length≤c0) (hr1:Kd.C k35 w A1 l1.length l1) (hc1:l1.length≤c1) (hr2:Kd.C k37 w A2 l2.length l2) (hc2:l2.length≤c2)
  (hf:fitB l0 l1 l2=true) (hw0:∀ x ∈ l0,wfS x) (hw1:∀ x ∈ l1,wfS x) (hw2:∀ x ∈ l2,wfI x.f1) (he0:l0=[]) (he1:l1=[]) :
  Calls Try.prog 17 #[.agg #[.slice A0 l0.length c0,.slice A1 l1.length c1,.slice A2 l2.length c2]] w fun e w'=>∃ v0_ v1_ v2_:Value,e=.returned (.agg #[v0_,v1_,v2_])∧Kd.R k35 35 w' w.heap.size (fun k_=>some k_≠(v1_:Value).ownBlock) v0_ l0∧Kd.R k35 35 w' w.heap.size (fun k_=>some k_≠(v0_:Value).ownBlock) v1_ l1∧Kd.R k37 37 w' w.heap.size (fun _=>True) v2_ l2∧Below w.heap.size w w':=by
 have HE0:=Lib.hid he0
 have HE1:=Lib.hid he1
 clear he0 he1
 obtain ⟨f0,f1,f2⟩:=fitB_iff.1 hf
 have hcp:=copied_some f0 f1 f2
 go_enter Try.func17,Try.ntmps17
 have HR0:=Lib.hid hr0
 have HR1:=Lib.hid hr1
 have HR2:=Lib.hid hr2
 have HW0:=Lib.hid hw0
 have HW1:=Lib.hid hw1
 have HW2:=Lib.hid hw2
 have HCP:=Lib.hid hcp
 clear hr0 hr1 hr2 hw0 hw1 hw2 hcp
 go_wp2_with fail
 have hbA:Below w.heap.size w ((w.alloc (.cells #[.slice A0 l0.length c0,.slice A1 l1.length c1,.slice A2 l2.length c2] 30)).alloc (.cells #[.slice none 0 0,.slice none 0 0,.slice none 0 0] 30)):=((Below.refl _ _).alloc (Nat.le_refl _) _).alloc (by simp) _
 refine (opt_copied.calls A0 c0 l0 A1 c1 l1 A2 c2 l2 l0 l1 l2 _ (Kd.C_below HR0.out hbA) hc0 (Kd.C_below HR1.out hbA) hc1 (Kd.C_below HR2.out hbA) hc2 HCP.out).mono ?_
 rintro e w1 ⟨v0,v1,v2,rfl,hV0,hV1,hV2,hB1⟩
 have b1:w1.heap[w.heap.size]?=some (.cells #[.slice A0 l0.length c0,.slice A1 l1.length c1,.slice A2 l2.length c2] 30 (0,0)):=blk_below (bk_a (blk_new _ _) _) hB1
 have b2:w1.heap[w.heap.size+1]?=some (.cells #[.slice none 0 0,.slice none 0 0,.slice none 0 0] 30 (0,0)):=blk_below (by have:=blk_new (w.alloc (.cells #[.slice A0 l0.length c0,.slice A1 l1.length c1,.slice A2 l2.length c2] 30)) (.cells #[.slice none 0 0,.slice none 0 0,.slice none 0 0] 30);simpa using this) hB1
 have hBw:Below w.heap.size w w1:=hbA.trans (hB1.mono (by simp;omega))
 have n02:=own_ne_of_types hV0 hV2
 have n12:=own_ne_of_types hV1 hV2
 have hV0':=Kd.R_bound hV0
 have hV1':=Kd.R_bound hV1
 have hV2':=Kd.R_bound hV2
 simp only [World.size_alloc] at hV0' hV1' hV2'
 have z1:=hB1.size
 simp only [World.size_alloc] at z1
 have z1a:w.heap.size < w1.heap.size:=by omega
 have z1b:w.heap.size+1 < w1.heap.size:=by omega
 obtain ⟨a0,d0,e0⟩:=Kd.R_slice hV0'
 obtain ⟨a1,d1,e1⟩:=Kd.R_slice hV1'
 obtain ⟨a2,d2,e2⟩:=Kd.R_slice hV2'
 subst e0 e1 e2
 have B1:=Lib.hid b1
 have B2:=Lib.hid b2
 have HV0:=Lib.hid hV0'
 have HV1:=Lib.hid hV1'
 have HV2:=Lib.hid hV2'
 have HBw:=Lib.hid hBw
 have k1a:=bk_c b1 0
 have k1b:=bk_c b1 1
 have k1c:=bk_c b1 2
 have f1a:=bk_f b1 0
 have f1b:=bk_f b1 1
 have f1c:=bk_f b1 2
 simp only [List.getElem?_toArray,List.getElem?_cons_zero,List.getElem?_cons_succ] at k1a k1b k1c
 have N02:=Lib.hid n02
 have N12:=Lib.hid n12
 clear hbA hV0 hV1 hV2 hB1 b1 b2 hBw hV0' hV1' hV2' n02 n12
 have b2:=B2.out
 have r5a:=bk_c b2 0
 have r5b:=bk_c b2 1
 have r5c:=bk_c b2 2
 have g5a:=bk_f b2 0
 have g5b:=bk_f b2 1
 have g5c:=bk_f b2 2
 simp only [List.getElem?_toArray,List.getElem?_cons_zero,List.getElem?_cons_succ] at r5a r5b r5c
 clear b2
 have t0:((l0.length:Int) == 0)=true:=by rw [HE0.out];rfl
 have t1:((l1.length:Int) == 0)=true:=by rw [HE1.out];rfl
 dsimp only
 go_wp2_with fail
 have hZ:∀ k,k≠w.heap.size→k≠w.heap.size+1→((((((w1.setCell ⟨w.heap.size,0,none⟩ (.slice a0 l0.length d0)).setCell ⟨w.heap.size,1,none⟩ (.slice a1 l1.length d1)).setCell ⟨w.heap.size,2,none⟩ (.slice a2 l2.length d2)).setCell ⟨w.heap.size+1,0,none⟩ (.slice a0 l0.length d0)).setCell ⟨w.heap.size+1,1,none⟩ (.slice a1 l1.length d1)).setCell ⟨w.heap.size+1,2,none⟩ (.slice a2 l2.length d2)).heap[k]?=w1.heap[k]?:=fun k h1 h2=>by
  rw [Below.heap_setCell _ _ _ _ h2,Below.heap_setCell _ _ _ _ h2,Below.heap_setCell _ _ _ _ h2,Below.heap_setCell _ _ _ _ h1,Below.heap_setCell _ _ _ _ h1,Below.heap_setCell _ _ _ _ h1]
 refine bodyPost_ret (results_cell_row rfl _ _ (w.heap.size+1) 30 #[.slice a0 l0.length d0,.slice a1 l1.length d1,.slice a2 l2.length d2] (0,0) _ rfl (blk_set (blk_set (blk_set (((Below.heap_setCell _ _ _ _ (by show w.heap.size+1≠w.heap.size;omega)).trans ((Below.heap_setCell _ _ _ _ (by show w.heap.size+1≠w.heap.size;omega)).trans (Below.heap_setCell _ _ _ _ (by show w.heap.size+1≠w.heap.size;omega)))).trans B2.out) 0 _) 1 _) 2 _) Try.underlying30 rfl (by kernel_rfl)) rfl ?_
 refine ⟨_,_,_,rfl,?_,?_,?_,?_⟩
 ·exact Kd.R_lower (Kd.R_mono (Kd.R_move HV0.out (fun k hk=>hZ k (by have:=hk.2.1;omega) (by have:=hk.2.1;omega))) (fun k hk=>hk.1)) (by omega)
 ·exact Kd.R_lower (Kd.R_mono (Kd.R_move HV1.out (fun k hk=>hZ k (by have:=hk.2.1;omega) (by have:=hk.2.1;omega))) (fun k hk=>hk.1)) (by omega)
 ·exact Kd.R_lower (Kd.R_mono (Kd.R_move HV2.out (fun k hk=>hZ k (by have:=hk.2.1;omega) (by have:=hk.2.1;omega))) (fun _ _=>trivial)) (by omega)
 ·exact (((((HBw.out.setCell (p:=⟨w.heap.size,0,none⟩) (Nat.le_refl _) _).setCell (p:=⟨w.heap.size,1,none⟩) (Nat.le_refl _) _).setCell (p:=⟨w.heap.size,2,none⟩) (Nat.le_refl _) _).setCell (p:=⟨w.heap.size+1,0,none⟩) (by show w.heap.size≤w.heap.size+1;omega) _).setCell (p:=⟨w.heap.size+1,1,none⟩) (by show w.heap.size≤w.heap.size+1;omega) _).setCell (p:=⟨w.heap.size+1,2,none⟩) (by show w.heap.size≤w.heap.size+1;omega) _
end Go.Proofs.Ytedghbjmhcgilaa.A
end
section
namespace Go.Proofs.Ytedghbjmhcgilaa.A
open Go.RowKit Go.Shelf Go.Proofs.YtedghbjmhcgilaaW.PrintWords Go.Proofs.YtedghbjmhcgilaaW.PrintLast Go.Proofs.YtedghbjmhcgilaaW.PrintMore
open Go.Proofs.Ytedghbjmhcgilaa.POpt
theorem succs5 (l:List S35) (r:List S37) (i:Nat):succs l r i=if (at5 l i).f0=4 then [(at5 l i).f1] else if (at5 l i).f0=3 then (at5 l i).f1 :: r.map S37.f1
  else if (at5 l i).f0=2∨(at5 l i).f0=16 then [(i:Int)+1,(at5 l i).f2] else if (at5 l i).f0=24 then [] else [(i:Int)+1]:=rfl
structure TI (l:List S35) (r:List S37) (D:List Bool) (i:Nat):Prop where
  len:D.length=l.length+1
  zero:marked D 0
  closed:∀ j,j < i→j < l.length→marked D j→∀ s ∈ succs l r j,0≤s→s < l.length→marked D s.toNat
  sound:∀ S,Closed l r S→∀ j,j < l.length→marked D j→S j
theorem marks_iff {D:List Bool} {L:List Int} (h:∀ c ∈ L,0≤c∧c < D.length) (j:Nat):marked (L.foldl setM D) j↔marked D j∨(j:Int) ∈ L:=by
  unfold marked
  rw [setMs_get L D j h]
  simp
section
variable {l e:List S35} {r:List S37} {D:List Bool} {i:Nat}
theorem TI.step (h:TI l r D i) (hi:i < l.length) (hm:marked D i) {L:List Int} (hL:∀ s,s ∈ L↔s ∈ succs l r i) (hr:∀ s ∈ L,(s=0∨(i:Int) < s)∧s≤l.length):TI l r (L.foldl setM D) (i+1):=by
  have hrange:∀ c ∈ L,0≤c∧c < D.length:=fun c hc=>by
    have:=hr c hc;rw [h.len];omega
  have hb:∀ j,marked (L.foldl setM D) j↔marked D j∨(j:Int) ∈ L:=marks_iff hrange
  refine ⟨by rw [setMs_len];exact h.len,(hb 0).2 (.inl h.zero),fun j hj hjn hmj s hs s0 s1=>?_,fun S hS j hjn hmj=>?_⟩
  · by_cases e:j=i
    · subst e
      refine (hb _).2 (.inr ((hL _).2 ?_))
      rw [show ((s.toNat:Nat):Int)=s by omega];exact hs
    · have hD:marked D j:=by
        rcases (hb j).1 hmj with q | q
        · exact q
        · have:=hr _ q
          have hz:j=0:=by omega
          rw [hz];exact h.zero
      exact (hb _).2 (.inl (h.closed j (by omega) hjn hD s hs s0 s1))
  · rcases (hb j).1 hmj with q | q
    · exact h.sound S hS j hjn q
    · have:=hS.2 i hi (h.sound S hS i hi hm) (j:Int) ((hL _).1 q) (by omega) (by omega)
      rwa [Int.toNat_natCast] at this
theorem TI.skip (h:TI l r D i) (hm:¬ marked D i):TI l r D (i+1) :=
  ⟨h.len,h.zero,fun j hj hjn hmj s hs s0 s1=>by
    by_cases e:j=i
    · subst e;exact absurd hmj hm
    · exact h.closed j (by omega) hjn hmj s hs s0 s1,h.sound⟩
theorem TI.keep (h:TI l r D i) {L:List Int} (hL:∀ s ∈ L,(s=0∨(i:Int) < s)∧s≤l.length) {j:Nat} (hj:j < i):marked (L.foldl setM D) j↔marked D j:=by
  rw [marks_iff (fun c hc=>by have:=hL c hc;rw [h.len];omega)]
  refine ⟨fun q=>?_,.inl⟩
  rcases q with q | q
  · exact q
  · have:=hL _ q
    have hz:j=0:=by omega
    rw [hz];exact h.zero
theorem TI.same (h:TI l r D l.length) {x:List Bool} (hx:Reached l r x) (hp:0 < l.length) {j:Nat} (hj:j < l.length):marked D j↔marked x j :=
  ⟨h.sound (marked x) ⟨hx.zero hp,fun i hi hm s hs s0 s1=>hx.closed i hi hm s hs s0 s1⟩ j hj,
   hx.sound (marked D) ⟨h.zero,fun i hi hm s hs s0 s1=>h.closed i hi hi hm s hs s0 s1⟩ j hj⟩
theorem TI.start (hp:0 < l.length):TI l r ((List.replicate (l.length+1) false).set 0 true) 0:=by
  have hm:∀ j,marked ((List.replicate (l.length+1) false).set 0 true) j↔j=0:=by
    intro j
    rw [marked_set (by simp)]
    refine ⟨fun q=>?_,.inl⟩
    rcases q with q | q
    · exact q
    · unfold marked at q
      rw [List.getD_eq_getElem?_getD,List.getElem?_replicate] at q
      split at q <;> simp at q
  refine ⟨by simp,(hm 0).2 rfl,fun j hj=>absurd hj (Nat.not_lt_zero _),fun S hS j _ hj=>?_⟩
  rw [(hm j).1 hj];exact hS.1
theorem marked_rd {D:List Bool} {j:Nat}:rdOf false D (j:Int)=true↔marked D j:=by unfold rdOf marked;rw [Int.toNat_natCast]
theorem out_flags {x s:List Bool} {n:Nat} (hx:x.length=n) (h:∀ j,j < n→(marked s j↔marked x j)):∀ j,j < n→s.getD j false=!((x.map (!·)).getD j false):=by
  intro j hj
  have h1:=h j hj
  unfold marked at h1
  rw [List.getD_eq_getElem?_getD (l:=x.map (!·)),List.getElem?_map,List.getElem?_eq_getElem (by omega)]
  rw [List.getD_eq_getElem?_getD (l:=x),List.getElem?_eq_getElem (by omega)] at h1
  simp only [Option.map_some,Option.getD_some,Bool.not_not] at h1 ⊢
  cases hs:s.getD j false <;> cases hq:x[j] <;> simp_all
theorem out_stays {x:List Bool} {j:Nat} (hj:j < x.length):stays (x.map (!·)) j↔marked x j:=by
  unfold stays marked
  rw [List.getD_eq_getElem?_getD,List.getD_eq_getElem?_getD,List.getElem?_map,List.getElem?_eq_getElem hj]
  simp
theorem tl2 (he:e.length≤1048576) (hge:GoodE e) (D:List Bool) (b:Bool) (R:Out3)
    (hK:∀ E:List Bool,TI e [] E e.length→∃ K,((rfwithout.f K l e r D E).bind fun t=>if b=true then some (t.1,t.2.1,t.2.2) else some (t.1,t.2.1,([]:List S37)))=some R) :
    ∀ (p i:Nat) (E:List Bool),i+p=e.length→TI e [] E i→∃ k,rfTrim.l2 k D b E (i:Int) l e r=some R:=by
  intro p
  induction p with
  | zero =>
    intro i E hi hT
    have hie:i=e.length:=by omega
    subst hie
    obtain ⟨K,hK⟩:=hK E hT
    refine ⟨K+1,?_⟩
    rw [rfTrim.l2,if_neg (by omega)]
    exact hK
  | succ p ih =>
    intro i E hi hT
    have hlt:i < e.length:=by omega
    have hlen:=hT.len
    have hop:=hge.op i hlt
    by_cases hm:marked E i
    · by_cases h24:(at5 e i).f0=24
      · have hT':TI e [] E (i+1):=hT.step hlt hm (L:=[]) (fun s=>by rw [succs5,if_neg (by show ¬ (at5 e i).f0=4;omega),if_neg (by show ¬ (at5 e i).f0=3;omega),if_neg (by show ¬ ((at5 e i).f0=2∨(at5 e i).f0=16);omega),if_pos h24]) (fun s hs=>by cases hs)
        obtain ⟨k,hk⟩:=ih (i+1) E (by omega) hT'
        refine ⟨k+2,?_⟩
        rw [rfTrim.l2,if_pos (by omega),if_pos (by omega),if_pos (by omega),if_pos (marked_rd.2 hm),rd35,rfTrim.j3,if_pos (by simp [h24]),wnat (by omega)]
        exact hk
      · by_cases h16:(at5 e i).f0=16
        · obtain ⟨q1,q2⟩:=hge.has i hlt h16
          have hT':TI e [] ([((i:Int)+1),(at5 e i).f2].foldl setM E) (i+1):=hT.step hlt hm (fun s=>by rw [succs5,if_neg (by show ¬ (at5 e i).f0=4;omega),if_neg (by show ¬ (at5 e i).f0=3;omega),if_pos (by show (at5 e i).f0=2∨(at5 e i).f0=16;omega)]) (fun s hs=>by
            simp only [List.mem_cons,List.not_mem_nil,or_false] at hs
            rcases hs with rfl | rfl <;> omega)
          obtain ⟨k,hk⟩:=ih (i+1) _ (by omega) hT'
          refine ⟨k+2,?_⟩
          rw [rfTrim.l2,if_pos (by omega),if_pos (by omega),if_pos (by omega),if_pos (marked_rd.2 hm),rd35,rfTrim.j3,if_neg (by simp [h24]),wnat (by omega),if_pos (by omega),if_pos (by omega),Option.bind_some,if_pos (by omega),if_pos (by omega),rd35,if_pos h16,if_pos (by omega),if_pos (by omega)]
          exact hk
        · have hT':TI e [] ([((i:Int)+1)].foldl setM E) (i+1):=hT.step hlt hm (fun s=>by rw [succs5,if_neg (by show ¬ (at5 e i).f0=4;omega),if_neg (by show ¬ (at5 e i).f0=3;omega),if_neg (by show ¬ ((at5 e i).f0=2∨(at5 e i).f0=16);omega),if_neg h24]) (fun s hs=>by
            simp only [List.mem_cons,List.not_mem_nil,or_false] at hs
            subst hs;omega)
          obtain ⟨k,hk⟩:=ih (i+1) _ (by omega) hT'
          refine ⟨k+2,?_⟩
          rw [rfTrim.l2,if_pos (by omega),if_pos (by omega),if_pos (by omega),if_pos (marked_rd.2 hm),rd35,rfTrim.j3,if_neg (by simp [h24]),wnat (by omega),if_pos (by omega),if_pos (by omega),Option.bind_some,if_pos (by omega),if_pos (by omega),rd35,if_neg h16]
          exact hk
    · obtain ⟨k,hk⟩:=ih (i+1) E (by omega) (hT.skip hm)
      refine ⟨k+2,?_⟩
      rw [rfTrim.l2,if_pos (by omega),if_pos (by omega),if_pos (by omega),if_neg (fun q=>hm (marked_rd.1 q)),rfTrim.j3,if_pos rfl,wnat (by omega)]
      exact hk
theorem tl1 (hr:r.length≤1048576) (hl:i < 1048576) (D1:List Bool) (hD:D1.length=l.length+1) (hg:∀ y ∈ r,0≤y.f1∧y.f1 < l.length) (b:Bool) (R:Out3) (hK:∃ K,rfTrim.l0 K ((r.map S37.f1).foldl setM D1) b ((i+1:Nat):Int) l e r=some R) :
    ∀ (p j:Nat),j+p=r.length→∃ k,rfTrim.l1 k (((r.take j).map S37.f1).foldl setM D1) b (i:Int) (j:Int) l e r=some R:=by
  intro p
  induction p with
  | zero =>
    intro j hj
    obtain ⟨K,hK⟩:=hK
    refine ⟨K+1,?_⟩
    rw [rfTrim.l1,if_neg (by omega),show j=r.length by omega,List.take_length,wnat (by omega)]
    exact hK
  | succ p ih =>
    intro j hj
    obtain ⟨k,hk⟩:=ih (j+1) (by omega)
    have hlt:j < r.length:=by omega
    obtain ⟨q1,q2⟩:=hg r[j] (List.getElem_mem hlt)
    refine ⟨k+1,?_⟩
    rw [List.take_succ_eq_append_getElem hlt,List.map_append,List.map_cons,List.map_nil,fold_snoc] at hk
    rw [rfTrim.l1,if_pos (by omega),if_pos (by omega),rd37,at2_lt hlt,if_pos q1,if_pos (by rw [setMs_len];omega),wnat (by omega)]
    exact hk
theorem tl0 (hl:l.length≤1048576) (he:e.length≤1048576) (hr:r.length≤1048576) (hg:GoodD l r) (R:Out3)
    (hK:∀ (D:List Bool) (b:Bool),TI l r D l.length→(b=true↔∃ j,j < l.length∧marked D j∧(at5 l j).f0=3)→∃ K,rfTrim.l2 K D b ((List.replicate (e.length+1) false).set 0 true) 0 l e r=some R) :
    ∀ (p i:Nat) (D:List Bool) (b:Bool),i+p=l.length→TI l r D i→(b=true↔∃ j,j < i∧marked D j∧(at5 l j).f0=3)→∃ k,rfTrim.l0 k D b (i:Int) l e r=some R:=by
  intro p
  induction p with
  | zero =>
    intro i D b hi hT hb
    have hil:i=l.length:=by omega
    subst hil
    obtain ⟨K,hK⟩:=hK D b hT hb
    refine ⟨K+1,?_⟩
    rw [rfTrim.l0,if_neg (by omega),wnat (by omega),if_pos (by omega),if_pos (by omega),Option.bind_some,Int.toNat_natCast,if_pos (by simp)]
    exact hK
  | succ p ih =>
    intro i D b hi hT hb
    have hlt:i < l.length:=by omega
    have hlen:=hT.len
    have hop:=hg.op i hlt
    by_cases hm:marked D i
    ·
      have more:∀ (L:List Int),(∀ s ∈ L,(s=0∨(i:Int) < s)∧s≤l.length)→(at5 l i).f0≠3→(b=true↔∃ j,j < i+1∧marked (L.foldl setM D) j∧(at5 l j).f0=3):=by
        intro L hL h3
        rw [hb]
        constructor
        · rintro ⟨j,h1,h2,h4⟩;exact ⟨j,by omega,(hT.keep hL h1).2 h2,h4⟩
        · rintro ⟨j,h1,h2,h4⟩
          have hji:j < i:=by
            by_cases e:j=i
            · subst e;exact absurd h4 h3
            · omega
          exact ⟨j,hji,(hT.keep hL hji).1 h2,h4⟩
      by_cases h2:(at5 l i).f0=2
      · obtain ⟨q1,q2⟩:=hg.cas i hlt h2
        have hL:∀ s ∈ [((i:Int)+1),(at5 l i).f2],(s=0∨(i:Int) < s)∧s≤l.length:=fun s hs=>by
          simp only [List.mem_cons,List.not_mem_nil,or_false] at hs
          rcases hs with rfl | rfl <;> omega
        have hT':=hT.step hlt hm (L:=[((i:Int)+1),(at5 l i).f2]) (fun s=>by rw [succs5,if_neg (by show ¬ (at5 l i).f0=4;omega),if_neg (by show ¬ (at5 l i).f0=3;omega),if_pos (by show (at5 l i).f0=2∨(at5 l i).f0=16;omega)]) hL
        obtain ⟨k,hk⟩:=ih (i+1) _ b (by omega) hT' (more _ hL (by omega))
        refine ⟨k+1,?_⟩
        rw [rfTrim.l0,if_pos (by omega),if_pos (by omega),if_pos (by omega),if_pos (marked_rd.2 hm),rd35,if_pos h2,wnat (by omega),if_pos (by omega),if_pos (by omega),if_pos (by omega),if_pos (by omega)]
        exact hk
      · by_cases h3:(at5 l i).f0=3
        · obtain ⟨q1,q2⟩:=hg.jump i hlt h3
          have hL:∀ s ∈ (at5 l i).f1 :: r.map S37.f1,(s=0∨(i:Int) < s)∧s≤l.length:=fun s hs=>by
            rcases List.mem_cons.1 hs with rfl | hs
            · omega
            · obtain ⟨y,hy,rfl⟩:=List.mem_map.1 hs
              have h1:=hg.rowsJ y hy i hlt h3
              have h2:=hg.rows y hy
              omega
          have hT':=hT.step hlt hm (L:=(at5 l i).f1 :: r.map S37.f1) (fun s=>by rw [succs5,if_neg (by show ¬ (at5 l i).f0=4;omega),if_pos h3]) hL
          have hb':(true=true↔∃ j,j < i+1∧marked (((at5 l i).f1 :: r.map S37.f1).foldl setM D) j∧(at5 l j).f0=3):=by
            refine ⟨fun _=>⟨i,by omega,?_,h3⟩,fun _=>rfl⟩
            exact (marks_iff (fun c hc=>by have:=hL c hc;rw [hlen];omega) i).2 (.inl hm)
          obtain ⟨k,hk⟩:=ih (i+1) _ true (by omega) hT' hb'
          obtain ⟨k1,hk1⟩:=tl1 (l:=l) (e:=e) (i:=i) hr (by omega) (setM D (at5 l i).f1) (by simp [setM,hlen]) (fun y hy=>by have:=hg.rows y hy;omega) true R ⟨k,hk⟩ r.length 0 (by omega)
          refine ⟨k1+1,?_⟩
          rw [rfTrim.l0,if_pos (by omega),if_pos (by omega),if_pos (by omega),if_pos (marked_rd.2 hm),rd35,if_neg h2,if_pos h3,if_pos (by omega),if_pos (by omega)]
          exact hk1
        · by_cases h4:(at5 l i).f0=4
          · have q:(at5 l i).f1=0∨((i:Int) < (at5 l i).f1∧(at5 l i).f1 < l.length):=hg.go i hlt h4
            have hL:∀ s ∈ [(at5 l i).f1],(s=0∨(i:Int) < s)∧s≤l.length:=fun s hs=>by
              simp only [List.mem_cons,List.not_mem_nil,or_false] at hs
              subst hs;omega
            have hT':=hT.step hlt hm (L:=[(at5 l i).f1]) (fun s=>by rw [succs5,if_pos h4]) hL
            obtain ⟨k,hk⟩:=ih (i+1) _ b (by omega) hT' (more _ hL h3)
            refine ⟨k+1,?_⟩
            rw [rfTrim.l0,if_pos (by omega),if_pos (by omega),if_pos (by omega),if_pos (marked_rd.2 hm),rd35,if_neg h2,if_neg h3,if_pos h4,if_pos (by omega),if_pos (by omega),wnat (by omega)]
            exact hk
          · have hL:∀ s ∈ [((i:Int)+1)],(s=0∨(i:Int) < s)∧s≤l.length:=fun s hs=>by
              simp only [List.mem_cons,List.not_mem_nil,or_false] at hs
              subst hs;omega
            have hT':=hT.step hlt hm (L:=[((i:Int)+1)]) (fun s=>by rw [succs5,if_neg (by show ¬ (at5 l i).f0=4;omega),if_neg (by show ¬ (at5 l i).f0=3;omega),if_neg (by show ¬ ((at5 l i).f0=2∨(at5 l i).f0=16);omega),if_neg (by show ¬ (at5 l i).f0=24;omega)]) hL
            obtain ⟨k,hk⟩:=ih (i+1) _ b (by omega) hT' (more _ hL h3)
            refine ⟨k+1,?_⟩
            rw [rfTrim.l0,if_pos (by omega),if_pos (by omega),if_pos (by omega),if_pos (marked_rd.2 hm),rd35,if_neg h2,if_neg h3,if_neg h4,wnat (by omega),if_pos (by omega),if_pos (by omega)]
            exact hk
    · have hb':b=true↔∃ j,j < i+1∧marked D j∧(at5 l j).f0=3:=by
        rw [hb]
        constructor
        · rintro ⟨j,h1,h2,h4⟩;exact ⟨j,by omega,h2,h4⟩
        · rintro ⟨j,h1,h2,h4⟩
          have hji:j < i:=by
            by_cases e:j=i
            · subst e;exact absurd h2 hm
            · omega
          exact ⟨j,hji,h2,h4⟩
      obtain ⟨k,hk⟩:=ih (i+1) D b (by omega) (hT.skip hm) hb'
      refine ⟨k+1,?_⟩
      rw [rfTrim.l0,if_pos (by omega),if_pos (by omega),if_pos (by omega),if_neg (fun q=>hm (marked_rd.1 q)),wnat (by omega)]
      exact hk
theorem jump_iff (L:List S35):0≤jumpAt L↔∃ x ∈ L,x.f0=3:=by
  by_cases h:∃ x ∈ L,x.f0=3
  · refine ⟨fun _=>h,fun _=>?_⟩
    obtain ⟨x,hx,h3⟩:=h
    unfold jumpAt
    cases hf:L.findIdx? (fun x=>x.f0 == 3) with
    | some i=>simp
    | none =>
      rw [List.findIdx?_eq_none_iff] at hf
      have:=hf x hx
      simp [h3] at this
  · refine ⟨fun q=>?_,fun q=>absurd q h⟩
    rw [findIdx_all (fun i hi h3=>h ⟨L[i],List.getElem_mem hi,h3⟩)] at q
    omega
theorem refTrim (hg:GoodD l r) (hge:GoodE e) (hl:l.length≤1048576) (he:e.length≤1048576) (hr:r.length≤1048576) {x y:List Bool} (hx:Reached l r x) (hy:Reached e [] y):∃ k,rfTrim.f k l e r=some ((trimP x l r).1,(trimP y e []).1,trimRows x l r):=by
  have hxl:=hx.len
  have hyl:=hy.len
  have named:∀ j,j < l.length→marked x j→namesStay (x.map (!·)) (at5 l j):=by
    intro j hj hm k hk
    have hop:=hg.op j hj
    have hs:∀ c:Int,0≤c→c < l.length→c ∈ succs l r j→0≤c∧stays (x.map (!·)) c.toNat:=fun c h0 h1 hc=>⟨h0,(out_stays (by omega)).2 (hx.closed j hj hm c hc h0 h1)⟩
    unfold namedOff at hk
    split at hk
    · rename_i h3;injection hk with hk;subst hk
      have:=hg.jump j hj h3
      refine hs (at5 l j).f1 (by omega) this.2 ?_
      rw [succs5,if_neg (by show ¬ (at5 l j).f0=4;omega),if_pos h3];exact List.mem_cons_self ..
    · split at hk
      · rename_i h4;injection hk with hk;subst hk
        have:=hg.go j hj h4
        refine hs (at5 l j).f1 (by omega) (by omega) ?_
        rw [succs5,if_pos h4];exact List.mem_cons_self ..
      · split at hk
        · rename_i h2;injection hk with hk;subst hk
          have:=hg.cas j hj h2
          refine hs (at5 l j).f2 (by omega) this.2 ?_
          rw [succs5,if_neg (by show ¬ (at5 l j).f0=4;omega),if_neg (by show ¬ (at5 l j).f0=3;omega),if_pos (.inl h2)];exact List.mem_cons_of_mem _ (List.mem_cons_self ..)
        · split at hk
          · omega
          · cases hk
  have namedE:∀ j,j < e.length→marked y j→namesStay (y.map (!·)) (at5 e j):=by
    intro j hj hm k hk
    have hop:=hge.op j hj
    unfold namedOff at hk
    rw [if_neg (by omega),if_neg (by omega),if_neg (by omega)] at hk
    split at hk
    · rename_i h16;injection hk with hk;subst hk
      have:=hge.has j hj h16
      refine ⟨by show 0≤(at5 e j).f2;omega,(out_stays (by show (at5 e j).f2.toNat < _;omega)).2 (hy.closed j hj hm (at5 e j).f2 ?_ (by omega) this.2)⟩
      rw [succs5,if_neg (by show ¬ (at5 e j).f0=4;omega),if_neg (by show ¬ (at5 e j).f0=3;omega),if_pos (.inr h16)];exact List.mem_cons_of_mem _ (List.mem_cons_self ..)
    · cases hk
  have key:∀ (D:List Bool) (b:Bool),TI l r D l.length→(b=true↔∃ j,j < l.length∧marked D j∧(at5 l j).f0=3)→∃ K,rfTrim.l2 K D b ((List.replicate (e.length+1) false).set 0 true) 0 l e r=some ((trimP x l r).1,(trimP y e []).1,trimRows x l r):=by
    intro D b hT hb
    refine tl2 he hge D b _ (fun E hE=>?_) e.length 0 _ (by omega) (TI.start hge.pos)
    have hD:∀ j,j < l.length→(marked D j↔marked x j):=fun j hj=>hT.same hx hg.pos hj
    have hEe:∀ j,j < e.length→(marked E j↔marked y j):=fun j hj=>hE.same hy hge.pos hj
    obtain ⟨K,hK⟩:=refWithout (l:=l) (e:=e) (r:=r) (out:=x.map (!·)) (outE:=y.map (!·)) (s:=D) (sE:=E) hl he hr (by simp [hxl]) (by simp [hyl]) (fun z hz=>by have:=hg.rows z hz;omega)
      (by rw [hE.len];omega) (out_flags hyl hEe) (fun i hi=>(hge.op i hi).1) (fun i hi=>by have hlt:=stays_lt hi;rw [List.length_map,hyl] at hlt;exact namedE i hlt ((out_stays (by omega)).1 hi))
      (by rw [hT.len];omega) (out_flags hxl hD) (fun i hi=>(hg.op i hi).2) (fun i hi=>by have hlt:=stays_lt hi;rw [List.length_map,hxl] at hlt;exact named i hlt ((out_stays (by omega)).1 hi))
    refine ⟨K,?_⟩
    rw [hK,Option.bind_some]
    have hJ:0≤jumpAt (trimP x l r).1↔b=true:=by
      rw [jump_iff,hb]
      constructor
      · rintro ⟨z,hz,h3⟩
        obtain ⟨w,hw,rfl⟩:=List.mem_map.1 hz
        rw [placed_f0] at h3
        obtain ⟨i,hi,rfl⟩:=List.mem_iff_getElem.1 hw
        obtain ⟨j,h1,h2,h4⟩:=kept_mem (out:=x.map (!·)) (by simp [hxl]) hi
        rw [h4] at h3
        exact ⟨j,h1,(hD j h1).2 ((out_stays (by omega)).1 h2),h3⟩
      · rintro ⟨j,h1,h2,h3⟩
        have hst:stays (x.map (!·)) j:=(out_stays (by omega)).2 ((hD j h1).1 h2)
        have hat:=without_at (l:=l) (r:=r) (out:=x.map (!·)) (by simp [hxl]) hst
        have hlen:=without_len (l:=l) (r:=r) (out:=x.map (!·)) (by simp [hxl])
        have hcl:=cnt_lt hst h1
        refine ⟨at5 (withoutP l r (x.map (!·))).1 (cnt (x.map (!·)) j),at5_mem (l:=(withoutP l r (x.map (!·))).1) (by rw [hlen];exact hcl),?_⟩
        rw [hat,placed_f0];exact h3
    show (if b=true then some ((withoutP l r (x.map (!·))).1,(withoutP e [] (y.map (!·))).1,r.map (rowT (x.map (!·)))) else some ((withoutP l r (x.map (!·))).1,(withoutP e [] (y.map (!·))).1,([]:List S37)))=_
    unfold trimRows
    by_cases hbt:b=true
    · rw [if_pos hbt,if_pos (by simpa using hJ.2 hbt)]
      obtain ⟨j,h1,h2,h3⟩:=hb.1 hbt
      rw [rowT_stays (l:=l) (by simp [hxl]) (fun z hz=>?_)]
      · rfl
      · obtain ⟨q1,q2⟩:=hg.rows z hz
        refine ⟨Int.le_of_lt q1,(out_stays (by omega)).2 (hx.closed j h1 ((hD j h1).1 h2) z.f1 ?_ (Int.le_of_lt q1) q2)⟩
        rw [succs5,if_neg (by show ¬ (at5 l j).f0=4;omega),if_pos h3]
        exact List.mem_cons_of_mem _ (List.mem_map.2 ⟨z,hz,rfl⟩)
    · rw [if_neg hbt,if_neg (by simp only [decide_eq_true_eq];exact fun q=>hbt (hJ.1 q))]
      rfl
  obtain ⟨k,hk⟩:=tl0 hl he hr hg _ key l.length 0 _ false (by omega) (TI.start hg.pos) ⟨fun q=>(by cases q),fun ⟨j,hj,_⟩=>absurd hj (Nat.not_lt_zero _)⟩
  refine ⟨k,?_⟩
  unfold rfTrim.f
  rw [isEnum_no hg.pos,Option.bind_some,if_neg (by simp),wnat (by omega),if_pos (by omega),if_pos (by omega),Option.bind_some,Int.toNat_natCast,if_pos (by simp)]
  exact hk
end
end Go.Proofs.Ytedghbjmhcgilaa.A
end
section
namespace Go.Proofs.Ytedghbjmhcgilaa.A
open Go.RowKit Go.Shelf Go.Maps Go.Proofs.YtedghbjmhcgilaaW.PrintWords Go.Proofs.YtedghbjmhcgilaaW.PrintLast Go.Proofs.YtedghbjmhcgilaaW.PrintMore
open Go.Proofs.Ytedghbjmhcgilaa.POpt
def wfIB (x:Int):Bool:=decide (-9223372036854775808≤x) && decide (x≤9223372036854775807)
theorem wfIB_iff {x:Int}:wfIB x=true↔-9223372036854775808≤x∧x≤9223372036854775807:=by unfold wfIB;simp
theorem wfI_of {x:Int} (h:wfIB x=true):wfI x:=wf64 (wfIB_iff.1 h)
def okB (l0 l1:List S35) (l2:List S37):Bool:=fitB l0 l1 l2 && (l0.all (fun x=>wfIB x.f1 && wfIB x.f2) && (l1.all (fun x=>wfIB x.f1 && wfIB x.f2) && l2.all (fun x=>wfIB x.f1)))
theorem okB_iff {l0 l1:List S35} {l2:List S37}:okB l0 l1 l2=true↔fitB l0 l1 l2=true∧(∀ x ∈ l0,wfIB x.f1=true∧wfIB x.f2=true)∧(∀ x ∈ l1,wfIB x.f1=true∧wfIB x.f2=true)∧(∀ x ∈ l2,wfIB x.f1=true):=by
 unfold okB
 simp [List.all_eq_true]
theorem okB_wf {l0 l1:List S35} {l2:List S37} (h:okB l0 l1 l2=true):fitB l0 l1 l2=true∧(∀ x ∈ l0,wfS x)∧(∀ x ∈ l1,wfS x)∧(∀ x ∈ l2,wfI x.f1):=by
 obtain ⟨h1,h2,h3,h4⟩:=okB_iff.1 h
 exact ⟨h1,fun x hx=>⟨wfI_of (h2 x hx).1,wfI_of (h2 x hx).2⟩,fun x hx=>⟨wfI_of (h3 x hx).1,wfI_of (h3 x hx).2⟩,fun x hx=>wfI_of (h4 x hx)⟩
def tagB (l0:List S35):Bool:=l0.all (fun x=>!(x.f0 == 2) || (decide (0≤x.f1) && decide (x.f1≤4611686018427387904)))
theorem tagB_iff {l0:List S35}:tagB l0=true↔∀ x ∈ l0,x.f0=2→0≤x.f1∧x.f1≤4611686018427387904:=by
 unfold tagB
 rw [List.all_eq_true]
 constructor
 ·intro h x hx e
  have:=h x hx
  simpa [e] using this
 ·intro h x hx
  by_cases e:x.f0=2
  ·simpa [e] using h x hx e
  ·simp [e]
def TablesF (l0 l1:List S35) (l2:List S37):Option (List S35 × List S35 × List S37):=if okB l0 l1 l2=true then (if tagB l0=true then some ((tabP l0 l2).1,l1,(tabP l0 l2).2) else none) else none
theorem TablesF_calls (A0:Option Addr) (c0:Nat) (l0:List S35) (A1:Option Addr) (c1:Nat) (l1:List S35) (A2:Option Addr) (c2:Nat) (l2:List S37) (r1:List S35) (r2:List S35) (r3:List S37) (w:World)
  (hr0:Kd.C k35 w A0 l0.length l0) (hc0:l0.length≤c0) (hr1:Kd.C k35 w A1 l1.length l1) (hc1:l1.length≤c1) (hr2:Kd.C k37 w A2 l2.length l2) (hc2:l2.length≤c2) (h:TablesF l0 l1 l2=some (r1,r2,r3)) :
  Calls Try.prog 11 #[.agg #[.slice A0 l0.length c0,.slice A1 l1.length c1,.slice A2 l2.length c2]] w fun e w'=>∃ v0_ v1_ v2_:Value,e=.returned (.agg #[v0_,v1_,v2_])∧Kd.R k35 35 w' w.heap.size (fun k_=>some k_≠(v1_:Value).ownBlock) v0_ r1∧Kd.R k35 35 w' w.heap.size (fun k_=>some k_≠(v0_:Value).ownBlock) v1_ r2∧Kd.R k37 37 w' w.heap.size (fun _=>True) v2_ r3∧Below w.heap.size w w':=by
 unfold TablesF at h
 split at h
 case isFalse=>cases h
 rename_i hok
 split at h
 case isFalse=>cases h
 rename_i htg
 obtain ⟨hf,hw0,hw1,hw2⟩:=okB_wf hok
 injection h with h
 injection h with h1 h
 injection h with h2 h3
 subst h1 h2 h3
 by_cases hs:0 < l2.length∨l0.length < 2∨(at5 l0 1).f0≠2
 ·have e:tabP l0 l2=(l0,l2):=by unfold tabP;rw [if_pos hs]
  rw [e]
  refine Tables_stay A0 c0 l0 A1 c1 l1 A2 c2 l2 w hr0 hc0 hr1 hc1 hr2 hc2 hf hw0 hw1 hw2 ?_
  by_cases h2:0 < l2.length
  ·exact .inl h2
  ·have h2':l2.length=0:=by omega
   rcases hs with hs | hs | hs
   ·exact absurd hs h2
   ·exact .inr (.inl ⟨h2',hs⟩)
   ·by_cases h0:l0.length < 2
    ·exact .inr (.inl ⟨h2',h0⟩)
    ·refine .inr (.inr ⟨h2',by omega,?_⟩)
     rw [at5_lt (by omega)] at hs
     exact hs
 ·have h2:l2.length=0:=by omega
  have h0:2≤l0.length:=by omega
  have ht:(l0.getD 1 z35).f0=2:=by
   false_or_by_contra
   rename_i hn
   exact hs (.inr (.inr hn))
  have e:tabP l0 l2=(l0.set 1 ⟨3,((tabGo l0 l0.length [] 1).2:Int),0,0,0⟩,sortRows (tabGo l0 l0.length [] 1).1):=by unfold tabP;rw [if_neg hs]
  rw [e]
  exact Tables_chain A0 c0 l0 A1 c1 l1 A2 c2 l2 w hr0 hc0 hr1 hc1 hr2 hc2 hf hw0 (tagB_iff.1 htg) h2 h0 ht
def FuseF (l0 l1:List S35) (l2:List S37):Option (List S35 × List S35 × List S37):=if okB l0 l1 l2=true then some ((fuseP l0 l2).1,(fuseP l1 []).1,(fuseP l0 l2).2) else none
def ThreadF (l0 l1:List S35) (l2:List S37):Option (List S35 × List S35 × List S37):=if okB l0 l1 l2=true then some (l0.map (placed (thr l0)),l1,l2.map (placedR (thr l0))) else none
def TrimF (k:Nat) (l0 l1:List S35) (l2:List S37):Option (List S35 × List S35 × List S37):=if okB l0 l1 l2=true then (if l0.length=0∧l1.length=0 then some (l0,l1,l2) else (opt_reached.f k l0 l2).bind fun r0=>(opt_reached.f k l1 []).bind fun r1=>if r0.length=l0.length∧r1.length=l1.length then some ((trimP r0 l0 l2).1,(trimP r1 l1 []).1,trimRows r0 l0 l2) else none) else none
theorem TrimF_mono:∀ (a0 a1:List S35) (a2:List S37) (k:Nat),LeO (TrimF k a0 a1 a2) (TrimF (k+1) a0 a1 a2):=by
 intro a0 a1 a2 k
 unfold TrimF
 refine LeO.ite (LeO.ite (LeO.refl _) ?_) (LeO.refl _)
 exact LeO.bind (opt_reached.mono _ _ _) (fun r0=>LeO.bind (opt_reached.mono _ _ _) (fun r1=>LeO.refl _))
section
variable (A0:Option Addr) (c0:Nat) (l0:List S35) (A1:Option Addr) (c1:Nat) (l1:List S35) (A2:Option Addr) (c2:Nat) (l2:List S37) (r1:List S35) (r2:List S35) (r3:List S37) (w:World)
  (hr0:Kd.C k35 w A0 l0.length l0) (hc0:l0.length≤c0) (hr1:Kd.C k35 w A1 l1.length l1) (hc1:l1.length≤c1) (hr2:Kd.C k37 w A2 l2.length l2) (hc2:l2.length≤c2)
include hr0 hc0 hr1 hc1 hr2 hc2
theorem FuseF_calls (h:FuseF l0 l1 l2=some (r1,r2,r3)) :
  Calls Try.prog 13 #[.agg #[.slice A0 l0.length c0,.slice A1 l1.length c1,.slice A2 l2.length c2]] w fun e w'=>∃ v0_ v1_ v2_:Value,e=.returned (.agg #[v0_,v1_,v2_])∧Kd.R k35 35 w' w.heap.size (fun k_=>some k_≠(v1_:Value).ownBlock) v0_ r1∧Kd.R k35 35 w' w.heap.size (fun k_=>some k_≠(v0_:Value).ownBlock) v1_ r2∧Kd.R k37 37 w' w.heap.size (fun _=>True) v2_ r3∧Below w.heap.size w w':=by
 unfold FuseF at h
 split at h
 case isFalse=>cases h
 rename_i hok
 obtain ⟨hf,hw0,hw1,hw2⟩:=okB_wf hok
 injection h with h
 injection h with h1 h
 injection h with h2 h3
 subst h1 h2 h3
 exact Fuse_calls A0 c0 l0 A1 c1 l1 A2 c2 l2 w hr0 hc0 hr1 hc1 hr2 hc2 hf hw0 hw1 hw2
theorem ThreadF_calls (h:ThreadF l0 l1 l2=some (r1,r2,r3)) :
  Calls Try.prog 15 #[.agg #[.slice A0 l0.length c0,.slice A1 l1.length c1,.slice A2 l2.length c2]] w fun e w'=>∃ v0_ v1_ v2_:Value,e=.returned (.agg #[v0_,v1_,v2_])∧Kd.R k35 35 w' w.heap.size (fun k_=>some k_≠(v1_:Value).ownBlock) v0_ r1∧Kd.R k35 35 w' w.heap.size (fun k_=>some k_≠(v0_:Value).ownBlock) v1_ r2∧Kd.R k37 37 w' w.heap.size (fun _=>True) v2_ r3∧Below w.heap.size w w':=by
 unfold ThreadF at h
 split at h
 case isFalse=>cases h
 rename_i hok
 obtain ⟨hf,hw0,hw1,hw2⟩:=okB_wf hok
 obtain ⟨f0,f1,f2⟩:=fitB_iff.1 hf
 have hcp:=copied_some f0 f1 f2
 injection h with h
 injection h with h1 h
 injection h with h2 h3
 subst h1 h2 h3
 have hl:api_Ins_42.f l0=some l0:=by
  unfold opt_copied.f at hcp
  cases hx:api_Ins_42.f l0 with
  | none=>rw [hx] at hcp;cases hcp
  | some t =>
   rw [hx] at hcp
   simp only [Option.bind_some] at hcp
   cases hy:api_Ins_42.f l1 with
   | none=>rw [hy] at hcp;cases hcp
   | some t2 =>
    rw [hy] at hcp
    simp only [Option.bind_some] at hcp
    cases hz:api_Line_54.f l2 with
    | none=>rw [hz] at hcp;cases hcp
    | some t3 =>
     rw [hz] at hcp
     simp only [Option.bind_some] at hcp
     injection hcp with hcp
     injection hcp with hcp _
     rw [hcp]
 exact Thread_calls A0 c0 l0 A1 c1 l1 A2 c2 l2 w hr0 hc0 hr1 hc1 hr2 hc2 (by omega) (by omega) hl hcp
theorem TrimF_calls (k:Nat) (h:TrimF k l0 l1 l2=some (r1,r2,r3)) :
  Calls Try.prog 17 #[.agg #[.slice A0 l0.length c0,.slice A1 l1.length c1,.slice A2 l2.length c2]] w fun e w'=>∃ v0_ v1_ v2_:Value,e=.returned (.agg #[v0_,v1_,v2_])∧Kd.R k35 35 w' w.heap.size (fun k_=>some k_≠(v1_:Value).ownBlock) v0_ r1∧Kd.R k35 35 w' w.heap.size (fun k_=>some k_≠(v0_:Value).ownBlock) v1_ r2∧Kd.R k37 37 w' w.heap.size (fun _=>True) v2_ r3∧Below w.heap.size w w':=by
 unfold TrimF at h
 split at h
 case isFalse=>cases h
 rename_i hok
 obtain ⟨hf,hw0,hw1,hw2⟩:=okB_wf hok
 by_cases he:l0.length=0∧l1.length=0
 ·rw [if_pos he] at h
  injection h with h
  injection h with h1 h
  injection h with h2 h3
  subst h1 h2 h3
  exact Trim_empty A0 c0 l0 A1 c1 l1 A2 c2 l2 w hr0 hc0 hr1 hc1 hr2 hc2 hf hw0 hw1 hw2 (List.eq_nil_of_length_eq_zero he.1) (List.eq_nil_of_length_eq_zero he.2)
 ·rw [if_neg he] at h
  cases hq0:opt_reached.f k l0 l2 with
  | none=>rw [hq0] at h;cases h
  | some q0 =>
   rw [hq0] at h
   simp only [Option.bind_some] at h
   cases hq1:opt_reached.f k l1 [] with
   | none=>rw [hq1] at h;cases h
   | some q1 =>
    rw [hq1] at h
    simp only [Option.bind_some] at h
    split at h
    case isFalse=>cases h
    rename_i hl
    injection h with h
    injection h with h1 h
    injection h with h2 h3
    subst h1 h2 h3
    exact Trim_calls A0 c0 l0 A1 c1 l1 A2 c2 l2 w hr0 hc0 hr1 hc1 hr2 hc2 hf hw0 hw1 hw2 k k q0 q1 hq0 hl.1 hq1 hl.2 he
end
end Go.Proofs.Ytedghbjmhcgilaa.A
end
section
namespace Go.Proofs.Ytedghbjmhcgilaa.A
open Go.RowKit Go.Shelf Go.Maps Go.Proofs.YtedghbjmhcgilaaW.PrintWords Go.Proofs.YtedghbjmhcgilaaW.PrintLast Go.Proofs.YtedghbjmhcgilaaW.PrintMore
open Go.Proofs.Ytedghbjmhcgilaa.POpt
attribute [local go_sem] Oper.semAt_some
def BlockF (k:Nat) (l0 l1:List S35) (l2:List S37):Option (List S35 × List S35 × List S37):=(TablesF l0 l1 l2).bind fun a=>(FuseF a.1 a.2.1 a.2.2).bind fun b=>(ThreadF b.1 b.2.1 b.2.2).bind fun c=>TrimF k c.1 c.2.1 c.2.2
theorem BlockF_mono:∀ (a0 a1:List S35) (a2:List S37) (k:Nat),LeO (BlockF k a0 a1 a2) (BlockF (k+1) a0 a1 a2):=by
 intro a0 a1 a2 k
 unfold BlockF
 exact LeO.bind (LeO.refl _) (fun _=>LeO.bind (LeO.refl _) (fun _=>LeO.bind (LeO.refl _) (fun _=>TrimF_mono _ _ _ _)))
theorem passes_calls (w:World):Calls Try.prog 48 #[] w fun e w'=>e=.returned (.slice (some ⟨w.heap.size,0,none⟩) 4 4)∧w.alloc (.cells #[.func (.func 11) #[] #[],.func (.func 13) #[] #[],.func (.func 15) #[] #[],.func (.func 17) #[] #[]] 32)=w':=by
 go_enter Try.func48,Try.ntmps48
 go_wp2_with fail
 go_ret
 exact ⟨rfl,rfl⟩
structure BC (W:World) (A0:Option Addr) (c0:Nat) (A1:Option Addr) (c1:Nat) (A2:Option Addr) (c2:Nat) (s:List S35 × List S35 × List S37):Prop where
 r0:Kd.C k35 W A0 s.1.length s.1
 m0:s.1.length≤c0
 r1:Kd.C k35 W A1 s.2.1.length s.2.1
 m1:s.2.1.length≤c1
 r2:Kd.C k37 W A2 s.2.2.length s.2.2
 m2:s.2.2.length≤c2
structure BR (base:Nat) (W:World) (A0:Option Addr) (c0:Nat) (A1:Option Addr) (c1:Nat) (A2:Option Addr) (c2:Nat) (s:List S35 × List S35 × List S37):Prop where
 r0:Kd.R k35 35 W base (fun k_=>some k_≠(Value.slice A1 s.2.1.length c1).ownBlock) (.slice A0 s.1.length c0) s.1
 r1:Kd.R k35 35 W base (fun k_=>some k_≠(Value.slice A0 s.1.length c0).ownBlock) (.slice A1 s.2.1.length c1) s.2.1
 r2:Kd.R k37 37 W base (fun _=>True) (.slice A2 s.2.2.length c2) s.2.2
theorem BR.reads {base:Nat} {W:World} {A0:Option Addr} {c0:Nat} {A1:Option Addr} {c1:Nat} {A2:Option Addr} {c2:Nat} {s:List S35 × List S35 × List S37} (h:BR base W A0 c0 A1 c1 A2 c2 s):BC W A0 c0 A1 c1 A2 c2 s:=by
 obtain ⟨_,m0,h0⟩:=Kd.R_reads' h.r0
 obtain ⟨_,m1,h1⟩:=Kd.R_reads' h.r1
 obtain ⟨_,m2,h2⟩:=Kd.R_reads' h.r2
 exact ⟨h0,m0,h1,m1,h2,m2⟩
theorem BR.far {base:Nat} {W W':World} {A0:Option Addr} {c0:Nat} {A1:Option Addr} {c1:Nat} {A2:Option Addr} {c2:Nat} {s:List S35 × List S35 × List S37} (h:BR base W A0 c0 A1 c1 A2 c2 s) (hm:∀ k,base≤k→W'.heap[k]?=W.heap[k]?):BR base W' A0 c0 A1 c1 A2 c2 s :=
 ⟨Kd.R_mono (Kd.R_move (Kd.R_bound h.r0) (fun k hk=>hm k hk.2.1)) (fun _ hk=>hk.1),Kd.R_mono (Kd.R_move (Kd.R_bound h.r1) (fun k hk=>hm k hk.2.1)) (fun _ hk=>hk.1),Kd.R_mono (Kd.R_move (Kd.R_bound h.r2) (fun k hk=>hm k hk.2.1)) (fun _ hk=>hk.1)⟩
theorem BR.lower {base base':Nat} {W:World} {A0:Option Addr} {c0:Nat} {A1:Option Addr} {c1:Nat} {A2:Option Addr} {c2:Nat} {s:List S35 × List S35 × List S37} (h:BR base W A0 c0 A1 c1 A2 c2 s) (hb:base'≤base):BR base' W A0 c0 A1 c1 A2 c2 s :=
 ⟨Kd.R_lower h.r0 hb,Kd.R_lower h.r1 hb,Kd.R_lower h.r2 hb⟩
set_option maxRecDepth 100000 in
set_option maxHeartbeats 2000000 in
theorem BlockF_calls (k:Nat) (A0:Option Addr) (c0:Nat) (l0:List S35) (A1:Option Addr) (c1:Nat) (l1:List S35) (A2:Option Addr) (c2:Nat) (l2:List S37) (r1':List S35) (r2':List S35) (r3':List S37) (w:World)
  (hr0:Kd.C k35 w A0 l0.length l0) (hc0:l0.length≤c0) (hr1:Kd.C k35 w A1 l1.length l1) (hc1:l1.length≤c1) (hr2:Kd.C k37 w A2 l2.length l2) (hc2:l2.length≤c2) (h:BlockF k l0 l1 l2=some (r1',r2',r3')) :
  Calls Try.prog 19 #[.agg #[.slice A0 l0.length c0,.slice A1 l1.length c1,.slice A2 l2.length c2]] w fun e w'=>∃ v0_ v1_ v2_:Value,e=.returned (.agg #[v0_,v1_,v2_])∧Kd.R k35 35 w' w.heap.size (fun k_=>some k_≠(v1_:Value).ownBlock) v0_ r1'∧Kd.R k35 35 w' w.heap.size (fun k_=>some k_≠(v0_:Value).ownBlock) v1_ r2'∧Kd.R k37 37 w' w.heap.size (fun _=>True) v2_ r3'∧Below w.heap.size w w':=by
 obtain ⟨st,q0,q1,q2,q3,q4,q5⟩:∃ st:Nat→List S35 × List S35 × List S37,st 0=(l0,l1,l2)∧TablesF (st 0).1 (st 0).2.1 (st 0).2.2=some (st 1)∧FuseF (st 1).1 (st 1).2.1 (st 1).2.2=some (st 2)∧ThreadF (st 2).1 (st 2).2.1 (st 2).2.2=some (st 3)∧TrimF k (st 3).1 (st 3).2.1 (st 3).2.2=some (st 4)∧st 4=(r1',r2',r3'):=by
  unfold BlockF at h
  obtain ⟨a,ha,h⟩:=Option.bind_eq_some_iff.mp h
  obtain ⟨b,hb,h⟩:=Option.bind_eq_some_iff.mp h
  obtain ⟨c,hc,h⟩:=Option.bind_eq_some_iff.mp h
  exact ⟨fun i=>match i with | 0=>(l0,l1,l2) | 1=>a | 2=>b | 3=>c | _=>(r1',r2',r3'),rfl,ha,hb,hc,h,rfl⟩
 go_enter Try.func19,Try.ntmps19
 have HBC:Hid (BC w A0 c0 A1 c1 A2 c2 (st 0)):=by rw [q0];exact ⟨hr0,hc0,hr1,hc1,hr2,hc2⟩
 have Q0:=Lib.hid q0
 have Q1:=Lib.hid q1
 have Q2:=Lib.hid q2
 have Q3:=Lib.hid q3
 have Q4:=Lib.hid q4
 have Q5:=Lib.hid q5
 clear h hr0 hr1 hr2 q0 q1 q2 q3 q4 q5
 go_wp2_with fail
 refine (passes_calls _).mono ?_
 rintro e w1 ⟨rfl,hw1⟩
 have b1:w1.heap[w.heap.size]?=some (.cells #[.slice A0 l0.length c0,.slice A1 l1.length c1,.slice A2 l2.length c2] 30 (0,0)):=by rw [← hw1];exact bk_a (bk_a (blk_new _ _) _) _
 have b2:w1.heap[w.heap.size+1]?=some (.cells #[.slice none 0 0,.slice none 0 0,.slice none 0 0] 30 (0,0)):=by
  rw [← hw1]
  refine bk_a ?_ _
  have:=blk_new (w.alloc (.cells #[.slice A0 l0.length c0,.slice A1 l1.length c1,.slice A2 l2.length c2] 30)) (.cells #[.slice none 0 0,.slice none 0 0,.slice none 0 0] 30);simpa using this
 have b3:w1.heap[w.heap.size+2]?=some (.cells #[.func (.func 11) #[] #[],.func (.func 13) #[] #[],.func (.func 15) #[] #[],.func (.func 17) #[] #[]] 32 (0,0)):=by
  rw [← hw1]
  have:=blk_new ((w.alloc (.cells #[.slice A0 l0.length c0,.slice A1 l1.length c1,.slice A2 l2.length c2] 30)).alloc (.cells #[.slice none 0 0,.slice none 0 0,.slice none 0 0] 30)) (.cells #[.func (.func 11) #[] #[],.func (.func 13) #[] #[],.func (.func 15) #[] #[],.func (.func 17) #[] #[]] 32);simpa using this
 have hB:Below w.heap.size w w1:=by rw [← hw1];exact ((((Below.refl _ _).alloc (Nat.le_refl _) _).alloc (by simp) _).alloc (by simp;omega) _)
 have B1:=Lib.hid b1
 have B2:=Lib.hid b2
 have B3:=Lib.hid b3
 have HB:=Lib.hid hB
 have HC1:Hid (BC w1 A0 c0 A1 c1 A2 c2 (st 0)):=⟨Kd.C_below HBC.out.r0 hB,HBC.out.m0,Kd.C_below HBC.out.r1 hB,HBC.out.m1,Kd.C_below HBC.out.r2 hB,HBC.out.m2⟩
 clear hw1 b1 b2 b3 hB
 dsimp only
 simp only [World.size_alloc]
 go_wp2_with fail
 go_loopw [7] (fun s7 wl=>∃ (i:Nat) (a0:Option Addr) (d0:Nat) (a1:Option Addr) (d1:Nat) (a2:Option Addr) (d2:Nat),i≤4∧s7=.int .i64 i∧Hid (Below w.heap.size w wl)∧Hid (wl.heap[w.heap.size]?=some (.cells #[.slice a0 (st i).1.length d0,.slice a1 (st i).2.1.length d1,.slice a2 (st i).2.2.length d2] 30 (0,0)))∧Hid (wl.heap[w.heap.size+1]?=some (.cells #[.slice none 0 0,.slice none 0 0,.slice none 0 0] 30 (0,0)))∧Hid (wl.heap[w.heap.size+2]?=some (.cells #[.func (.func 11) #[] #[],.func (.func 13) #[] #[],.func (.func 15) #[] #[],.func (.func 17) #[] #[]] 32 (0,0)))∧Hid (BC wl a0 d0 a1 d1 a2 d2 (st i))∧Hid (0 < i→BR (w.heap.size+3) wl a0 d0 a1 d1 a2 d2 (st i))) (fun s7 _=>4 - (intOf s7).toNat)
 case atStart=>exact ⟨0,A0,c0,A1,c1,A2,c2,by omega,rfl,HB.out,by rw [Q0.out];exact B1.out,B2.out,B3.out,HC1.out,fun h=>absurd h (by omega)⟩
 case round =>
  obtain ⟨i,a0,d0,a1,d1,a2,d2,hi,rfl,hB,hb1,hb2,hb3,hC,hR⟩:=hrel
  have hz:=blk_lt hb3.out
  have hz1:=blk_lt hb1.out
  have hz2:=blk_lt hb2.out
  have k1:=bk_c hb1.out 0
  have k2:=bk_c hb1.out 1
  have k3:=bk_c hb1.out 2
  have f1:=bk_f hb1.out 0
  have f2:=bk_f hb1.out 1
  have f3:=bk_f hb1.out 2
  simp only [List.getElem?_toArray,List.getElem?_cons_zero,List.getElem?_cons_succ] at k1 k2 k3
  have m0:=bk_c hb3.out 0
  have m1:=bk_c hb3.out 1
  have m2:=bk_c hb3.out 2
  have m3:=bk_c hb3.out 3
  simp only [List.getElem?_toArray,List.getElem?_cons_zero,List.getElem?_cons_succ] at m0 m1 m2 m3
  have fin:∀ (u0 u1 u2:Value) (s:List S35 × List S35 × List S37) (W:World),Kd.R k35 35 W wr.heap.size (fun k_=>some k_≠(u1:Value).ownBlock) u0 s.1→Kd.R k35 35 W wr.heap.size (fun k_=>some k_≠(u0:Value).ownBlock) u1 s.2.1→Kd.R k37 37 W wr.heap.size (fun _=>True) u2 s.2.2→Below wr.heap.size wr W→∃ (a0':Option Addr) (d0':Nat) (a1':Option Addr) (d1':Nat) (a2':Option Addr) (d2':Nat),u0=.slice a0' s.1.length d0'∧u1=.slice a1' s.2.1.length d1'∧u2=.slice a2' s.2.2.length d2'∧Aside ((((W.setCell ⟨w.heap.size,0,none⟩ u0).setCell ⟨w.heap.size,1,none⟩ u1).setCell ⟨w.heap.size,2,none⟩ u2).heap[w.heap.size]?=some (.cells #[u0,u1,u2] 30 (0,0))∧(((W.setCell ⟨w.heap.size,0,none⟩ u0).setCell ⟨w.heap.size,1,none⟩ u1).setCell ⟨w.heap.size,2,none⟩ u2).heap[w.heap.size+1]?=some (.cells #[.slice none 0 0,.slice none 0 0,.slice none 0 0] 30 (0,0))∧(((W.setCell ⟨w.heap.size,0,none⟩ u0).setCell ⟨w.heap.size,1,none⟩ u1).setCell ⟨w.heap.size,2,none⟩ u2).heap[w.heap.size+2]?=some (.cells #[.func (.func 11) #[] #[],.func (.func 13) #[] #[],.func (.func 15) #[] #[],.func (.func 17) #[] #[]] 32 (0,0))∧Below w.heap.size w (((W.setCell ⟨w.heap.size,0,none⟩ u0).setCell ⟨w.heap.size,1,none⟩ u1).setCell ⟨w.heap.size,2,none⟩ u2)∧BR (w.heap.size+3) (((W.setCell ⟨w.heap.size,0,none⟩ u0).setCell ⟨w.heap.size,1,none⟩ u1).setCell ⟨w.heap.size,2,none⟩ u2) a0' d0' a1' d1' a2' d2' s):=by
   intro u0 u1 u2 s W h0 h1 h2 hb
   obtain ⟨a0',d0',e0⟩:=Kd.R_slice h0
   obtain ⟨a1',d1',e1⟩:=Kd.R_slice h1
   obtain ⟨a2',d2',e2⟩:=Kd.R_slice h2
   have hW:∀ k,k≠w.heap.size→(((W.setCell ⟨w.heap.size,0,none⟩ u0).setCell ⟨w.heap.size,1,none⟩ u1).setCell ⟨w.heap.size,2,none⟩ u2).heap[k]?=W.heap[k]?:=fun k h=>by
    rw [Below.heap_setCell _ _ _ _ h,Below.heap_setCell _ _ _ _ h,Below.heap_setCell _ _ _ _ h]
   refine ⟨a0',d0',a1',d1',a2',d2',e0,e1,e2,⟨?_,?_,?_,?_,?_⟩⟩
   ·exact blk_set (blk_set (blk_set (blk_below hb1.out hb) 0 _) 1 _) 2 _
   ·exact (hW _ (by omega)).trans (blk_below hb2.out hb)
   ·exact (hW _ (by omega)).trans (blk_below hb3.out hb)
   ·exact (((hB.out.trans (hb.mono hB.out.size)).setCell (p:=⟨w.heap.size,0,none⟩) (Nat.le_refl _) _).setCell (p:=⟨w.heap.size,1,none⟩) (Nat.le_refl _) _).setCell (p:=⟨w.heap.size,2,none⟩) (Nat.le_refl _) _
   ·have hr:BR wr.heap.size W a0' d0' a1' d1' a2' d2' s:=by subst e0 e1 e2;exact ⟨h0,h1,h2⟩
    exact (hr.far (fun k hk=>hW k (by omega))).lower (by omega)
  have FIN:=Lib.hid fin
  clear fin
  have goes:∀ j,i=j→j < 4→True:=fun _ _ _=>trivial
  clear goes
  have hcase:i=0∨i=1∨i=2∨i=3∨i=4:=by omega
  rcases hcase with rfl | rfl | rfl | rfl | rfl
  ·go_wp2_with fail
   refine (TablesF_calls a0 d0 (st 0).1 a1 d1 (st 0).2.1 a2 d2 (st 0).2.2 (st 1).1 (st 1).2.1 (st 1).2.2 wr hC.out.r0 hC.out.m0 hC.out.r1 hC.out.m1 hC.out.r2 hC.out.m2 Q1.out).mono ?_
   rintro e w3 ⟨u0,u1,u2,rfl,h0,h1,h2,hb⟩
   have c1:=blk_below hb1.out hb
   have z3:=hb.size
   obtain ⟨a0',d0',a1',d1',a2',d2',rfl,rfl,rfl,hA⟩:=FIN.out u0 u1 u2 (st 1) w3 h0 h1 h2 hb
   clear h0 h1 h2 hb k1 k2 k3 f1 f2 f3 m0 m1 m2 m3
   have k1:=bk_c c1 0
   have k2:=bk_c c1 1
   have k3:=bk_c c1 2
   have f1:=bk_f c1 0
   have f2:=bk_f c1 1
   have f3:=bk_f c1 2
   simp only [List.getElem?_toArray,List.getElem?_cons_zero,List.getElem?_cons_succ] at k1 k2 k3
   clear c1
   have hz3:w.heap.size < w3.heap.size:=by omega
   dsimp only
   go_wp2_with fail
   exact ⟨⟨1,a0',d0',a1',d1',a2',d2',by omega,by go_num,hA.out.2.2.2.1,hA.out.1,hA.out.2.1,hA.out.2.2.1,hA.out.2.2.2.2.reads,fun _=>hA.out.2.2.2.2⟩,by simp [intOf]⟩
  ·go_wp2_with fail
   refine (FuseF_calls a0 d0 (st 1).1 a1 d1 (st 1).2.1 a2 d2 (st 1).2.2 (st 2).1 (st 2).2.1 (st 2).2.2 wr hC.out.r0 hC.out.m0 hC.out.r1 hC.out.m1 hC.out.r2 hC.out.m2 Q2.out).mono ?_
   rintro e w3 ⟨u0,u1,u2,rfl,h0,h1,h2,hb⟩
   have c1:=blk_below hb1.out hb
   have z3:=hb.size
   obtain ⟨a0',d0',a1',d1',a2',d2',rfl,rfl,rfl,hA⟩:=FIN.out u0 u1 u2 (st 2) w3 h0 h1 h2 hb
   clear h0 h1 h2 hb k1 k2 k3 f1 f2 f3 m0 m1 m2 m3
   have k1:=bk_c c1 0
   have k2:=bk_c c1 1
   have k3:=bk_c c1 2
   have f1:=bk_f c1 0
   have f2:=bk_f c1 1
   have f3:=bk_f c1 2
   simp only [List.getElem?_toArray,List.getElem?_cons_zero,List.getElem?_cons_succ] at k1 k2 k3
   clear c1
   have hz3:w.heap.size < w3.heap.size:=by omega
   dsimp only
   go_wp2_with fail
   exact ⟨⟨2,a0',d0',a1',d1',a2',d2',by omega,by go_num,hA.out.2.2.2.1,hA.out.1,hA.out.2.1,hA.out.2.2.1,hA.out.2.2.2.2.reads,fun _=>hA.out.2.2.2.2⟩,by simp [intOf]⟩
  ·go_wp2_with fail
   refine (ThreadF_calls a0 d0 (st 2).1 a1 d1 (st 2).2.1 a2 d2 (st 2).2.2 (st 3).1 (st 3).2.1 (st 3).2.2 wr hC.out.r0 hC.out.m0 hC.out.r1 hC.out.m1 hC.out.r2 hC.out.m2 Q3.out).mono ?_
   rintro e w3 ⟨u0,u1,u2,rfl,h0,h1,h2,hb⟩
   have c1:=blk_below hb1.out hb
   have z3:=hb.size
   obtain ⟨a0',d0',a1',d1',a2',d2',rfl,rfl,rfl,hA⟩:=FIN.out u0 u1 u2 (st 3) w3 h0 h1 h2 hb
   clear h0 h1 h2 hb k1 k2 k3 f1 f2 f3 m0 m1 m2 m3
   have k1:=bk_c c1 0
   have k2:=bk_c c1 1
   have k3:=bk_c c1 2
   have f1:=bk_f c1 0
   have f2:=bk_f c1 1
   have f3:=bk_f c1 2
   simp only [List.getElem?_toArray,List.getElem?_cons_zero,List.getElem?_cons_succ] at k1 k2 k3
   clear c1
   have hz3:w.heap.size < w3.heap.size:=by omega
   dsimp only
   go_wp2_with fail
   exact ⟨⟨3,a0',d0',a1',d1',a2',d2',by omega,by go_num,hA.out.2.2.2.1,hA.out.1,hA.out.2.1,hA.out.2.2.1,hA.out.2.2.2.2.reads,fun _=>hA.out.2.2.2.2⟩,by simp [intOf]⟩
  ·go_wp2_with fail
   refine (TrimF_calls a0 d0 (st 3).1 a1 d1 (st 3).2.1 a2 d2 (st 3).2.2 (st 4).1 (st 4).2.1 (st 4).2.2 wr hC.out.r0 hC.out.m0 hC.out.r1 hC.out.m1 hC.out.r2 hC.out.m2 k Q4.out).mono ?_
   rintro e w3 ⟨u0,u1,u2,rfl,h0,h1,h2,hb⟩
   have c1:=blk_below hb1.out hb
   have z3:=hb.size
   obtain ⟨a0',d0',a1',d1',a2',d2',rfl,rfl,rfl,hA⟩:=FIN.out u0 u1 u2 (st 4) w3 h0 h1 h2 hb
   clear h0 h1 h2 hb k1 k2 k3 f1 f2 f3 m0 m1 m2 m3
   have k1:=bk_c c1 0
   have k2:=bk_c c1 1
   have k3:=bk_c c1 2
   have f1:=bk_f c1 0
   have f2:=bk_f c1 1
   have f3:=bk_f c1 2
   simp only [List.getElem?_toArray,List.getElem?_cons_zero,List.getElem?_cons_succ] at k1 k2 k3
   clear c1
   have hz3:w.heap.size < w3.heap.size:=by omega
   dsimp only
   go_wp2_with fail
   exact ⟨⟨4,a0',d0',a1',d1',a2',d2',by omega,by go_num,hA.out.2.2.2.1,hA.out.1,hA.out.2.1,hA.out.2.2.1,hA.out.2.2.2.2.reads,fun _=>hA.out.2.2.2.2⟩,by simp [intOf]⟩
  ·have HR:=Lib.hid (hR.out (by omega))
   have HB2:=Lib.hid hb2.out
   have r1:=bk_c hb2.out 0
   have r2:=bk_c hb2.out 1
   have r3:=bk_c hb2.out 2
   have g1:=bk_f hb2.out 0
   have g2:=bk_f hb2.out 1
   have g3:=bk_f hb2.out 2
   simp only [List.getElem?_toArray,List.getElem?_cons_zero,List.getElem?_cons_succ] at r1 r2 r3
   clear m0 m1 m2 m3
   go_wp2_with fail
   have hZ:∀ k,k≠w.heap.size+1→(((wr.setCell ⟨w.heap.size+1,0,none⟩ (.slice a0 (st 4).1.length d0)).setCell ⟨w.heap.size+1,1,none⟩ (.slice a1 (st 4).2.1.length d1)).setCell ⟨w.heap.size+1,2,none⟩ (.slice a2 (st 4).2.2.length d2)).heap[k]?=wr.heap[k]?:=fun k h2=>by
    rw [Below.heap_setCell _ _ _ _ h2,Below.heap_setCell _ _ _ _ h2,Below.heap_setCell _ _ _ _ h2]
   refine bodyPost_ret (results_cell_row rfl _ _ (w.heap.size+1) 30 #[.slice a0 (st 4).1.length d0,.slice a1 (st 4).2.1.length d1,.slice a2 (st 4).2.2.length d2] (0,0) _ rfl (blk_set (blk_set (blk_set HB2.out 0 _) 1 _) 2 _) Try.underlying30 rfl (by kernel_rfl)) rfl ?_
   have hr:=(HR.out.far (W':=((wr.setCell ⟨w.heap.size+1,0,none⟩ (.slice a0 (st 4).1.length d0)).setCell ⟨w.heap.size+1,1,none⟩ (.slice a1 (st 4).2.1.length d1)).setCell ⟨w.heap.size+1,2,none⟩ (.slice a2 (st 4).2.2.length d2)) (fun k hk=>hZ k (by omega))).lower (show w.heap.size≤w.heap.size+3 by omega)
   have hbel:Below w.heap.size w (((wr.setCell ⟨w.heap.size+1,0,none⟩ (.slice a0 (st 4).1.length d0)).setCell ⟨w.heap.size+1,1,none⟩ (.slice a1 (st 4).2.1.length d1)).setCell ⟨w.heap.size+1,2,none⟩ (.slice a2 (st 4).2.2.length d2)):=((hB.out.setCell (p:=⟨w.heap.size+1,0,none⟩) (by show w.heap.size≤w.heap.size+1;omega) _).setCell (p:=⟨w.heap.size+1,1,none⟩) (by show w.heap.size≤w.heap.size+1;omega) _).setCell (p:=⟨w.heap.size+1,2,none⟩) (by show w.heap.size≤w.heap.size+1;omega) _
   have e1:(st 4).1=r1':=by rw [Q5.out]
   have e2:(st 4).2.1=r2':=by rw [Q5.out]
   have e3:(st 4).2.2=r3':=by rw [Q5.out]
   refine ⟨_,_,_,rfl,?_,?_,?_,hbel⟩
   ·rw [← e1];exact hr.r0
   ·rw [← e2];exact hr.r1
   ·rw [← e3];exact hr.r2
end Go.Proofs.Ytedghbjmhcgilaa.A
end
section
namespace Go.Proofs.Ytedghbjmhcgilaa.A
open Go.RowKit Go.Proofs.YtedghbjmhcgilaaW.PrintWords Go.Proofs.YtedghbjmhcgilaaW.PrintLast Go.Proofs.YtedghbjmhcgilaaW.PrintMore
open Go.Proofs.Ytedghbjmhcgilaa.POpt
structure PB (b : List S35 × List S35 × List S37) : Prop where
  n0 : b.1.length ≤ 1048576
  n1 : b.2.1.length ≤ 1048576
  n2 : b.2.2.length ≤ 1048576
  w0 : ∀ x ∈ b.1, wfS x
  w1 : ∀ x ∈ b.2.1, wfS x
  w2 : ∀ y ∈ b.2.2, wfI y.f1
theorem PB.ok {b : List S35 × List S35 × List S37} (h : PB b) : okB b.1 b.2.1 b.2.2 = true := by
  have n0 := h.n0; have n1 := h.n1; have n2 := h.n2
  refine okB_iff.2 ⟨fitB_iff.2 ⟨by omega, by omega, by omega⟩, fun x hx => ⟨wfIB_iff.2 (wf_in (h.w0 x hx).1), wfIB_iff.2 (wf_in (h.w0 x hx).2)⟩, fun x hx => ⟨wfIB_iff.2 (wf_in (h.w1 x hx).1), wfIB_iff.2 (wf_in (h.w1 x hx).2)⟩, fun x hx => wfIB_iff.2 (wf_in (h.w2 x hx))⟩
theorem wfI_nat {n : Nat} (h : n ≤ 9223372036854775807) : wfI (n : Int) := wf64 (by omega)
theorem addTag_len (R : List S37) (t : Int) (a : Nat) : (addTag R t a).length ≤ R.length + 1 := by
  unfold addTag; split <;> simp
theorem tabGo_len (l0 : List S35) : ∀ (f : Nat) (R : List S37) (a : Nat), (tabGo l0 f R a).1.length ≤ R.length + f := by
  intro f
  induction f with
  | zero => intro R a; simp [tabGo]
  | succ f ih =>
    intro R a
    rw [tabGo]
    have h1 := addTag_len R (l0.getD a z35).f1 a
    split
    · split
      · simp only; omega
      · have := ih (addTag R (l0.getD a z35).f1 a) (l0.getD a z35).f2.toNat; omega
    · simp only; omega
theorem tabGo_wf {l0 : List S35} (hw : ∀ x ∈ l0, wfS x) (hn : l0.length ≤ 1048576) : ∀ (f : Nat) (R : List S37) (a : Nat), (∀ y ∈ R, wfI y.f1) → a ≤ 9223372036854775807 → (∀ y ∈ (tabGo l0 f R a).1, wfI y.f1) ∧ (tabGo l0 f R a).2 ≤ 9223372036854775807 := by
  intro f
  induction f with
  | zero => intro R a hR ha; exact ⟨hR, ha⟩
  | succ f ih =>
    intro R a hR ha
    rw [tabGo]
    split
    · next hc =>
      have hA : ∀ y ∈ addTag R (l0.getD a z35).f1 a, wfI y.f1 := by
        intro y hy
        unfold addTag at hy
        split at hy
        · exact hR y hy
        · rcases List.mem_append.1 hy with hy | hy
          · exact hR y hy
          · rw [List.mem_singleton.1 hy]; exact wf64 (by show _ ≤ (a : Int) + 1 ∧ (a : Int) + 1 ≤ _; omega)
      split
      · exact ⟨hA, ha⟩
      · have h2 : wfI (l0.getD a z35).f2 := by
          rw [List.getD_eq_getElem?_getD, List.getElem?_eq_getElem hc.1]; exact (hw _ (List.getElem_mem hc.1)).2
        have := wf_in h2
        exact ih _ _ hA (by omega)
    · exact ⟨hR, ha⟩
theorem mem_sort {R : List S37} {x : S37} : x ∈ sortRows R ↔ x ∈ R := by unfold sortRows; exact List.mem_mergeSort
theorem PB.tables {b : List S35 × List S35 × List S37} (h : PB b) : PB ((tabP b.1 b.2.2).1, b.2.1, (tabP b.1 b.2.2).2) := by
  unfold tabP
  split
  · exact ⟨h.n0, h.n1, h.n2, h.w0, h.w1, h.w2⟩
  · have hw := tabGo_wf h.w0 h.n0 b.1.length [] 1 (fun y hy => by simp at hy) (by omega)
    have hl := tabGo_len b.1 b.1.length [] 1
    have n0 := h.n0
    refine ⟨by simp only [List.length_set]; exact h.n0, h.n1, by simp only [sortRows_len]; simp at hl; omega, fun x hx => ?_, h.w1, fun y hy => hw.1 y (mem_sort.1 hy)⟩
    rcases List.mem_or_eq_of_mem_set hx with hx | hx
    · exact h.w0 x hx
    · subst hx; exact ⟨wfI_nat hw.2, rfl⟩
theorem placed_wf {φ : Int → Int → Int} (hφ : ∀ p c, wfI c → wfI (φ p c)) {x : S35} (h : wfS x) : wfS (placed φ x) := by
  unfold placed
  split
  · next j hj =>
    rcases namedOff_12 hj with rfl | rfl
    · exact ⟨hφ _ _ h.1, h.2⟩
    · exact ⟨h.1, hφ _ _ h.2⟩
  · exact h
theorem kept_wf {l : List S35} {out : List Bool} {i : Nat} {φ : Int → Int → Int} (hφ : ∀ p c, wfI c → wfI (φ p c)) (h : ∀ x ∈ l, wfS x) : ∀ x ∈ (keptAt l out i).map (placed φ), wfS x := by
  intro x hx
  obtain ⟨y, hy, rfl⟩ := List.mem_map.1 hx
  exact placed_wf hφ (h y (keptAt_mem hy))
theorem rows_wf {l : List S37} {φ : Int → Int → Int} (hφ : ∀ p c, wfI c → wfI (φ p c)) (h : ∀ y ∈ l, wfI y.f1) : ∀ y ∈ l.map (placedR φ), wfI y.f1 := by
  intro x hx
  obtain ⟨y, hy, rfl⟩ := List.mem_map.1 hx
  exact hφ _ _ (h y hy)
theorem wfS_at {L : List S35} (h : ∀ x ∈ L, wfS x) (i : Nat) : wfS (L.getD i z35) := by
  rw [List.getD_eq_getElem?_getD]
  cases hx : L[i]? with
  | none => exact wfS_z
  | some y => exact h y (List.mem_of_getElem? hx)
theorem fuseGo_wf (T : List Bool) : ∀ (f : Nat) (s : List S35) (o : List Bool) (i : Nat), (∀ x ∈ s, wfS x) → (∀ x ∈ (fuseGo T f s o i).1, wfS x) ∧ (fuseGo T f s o i).1.length = s.length ∧ (fuseGo T f s o i).2.length = o.length := by
  intro f
  induction f with
  | zero => intro s o i h; exact ⟨h, rfl, rfl⟩
  | succ f ih =>
    intro s o i h
    rw [fuseGo]
    split
    · split
      · next z hz =>
        split
        · have := ih (s.set i z) (o.set (i + 1) true) (i + 2) (fun x hx => by
            rcases List.mem_or_eq_of_mem_set hx with hx | hx
            · exact h x hx
            · subst hx; exact fz_wf (wfS_at h _) (wfS_at h _) hz)
          simpa using this
        · exact ih _ _ _ h
      · exact ih _ _ _ h
    · exact ⟨h, rfl, rfl⟩
theorem fuse_pb {l0 : List S35} {l2 : List S37} (hn : l0.length ≤ 1048576) (h : ∀ x ∈ l0, wfS x) (h2 : ∀ y ∈ l2, wfI y.f1) : (fuseP l0 l2).1.length ≤ l0.length ∧ (fuseP l0 l2).2.length = l2.length ∧ (∀ x ∈ (fuseP l0 l2).1, wfS x) ∧ (∀ y ∈ (fuseP l0 l2).2, wfI y.f1) := by
  obtain ⟨a1, a2, a3⟩ := fuseGo_wf (targets l0 l2) l0.length l0 (List.replicate l0.length false) 0 h
  rw [List.length_replicate] at a3
  have hφ : ∀ p c, wfI c → wfI (toNow (fuseEnd l0 l2).2 l0.length p c) := fun p c hc => toNow_wf (by omega) a3 p c hc
  unfold fuseP
  refine ⟨?_, by simp, kept_wf hφ a1, rows_wf hφ h2⟩
  rw [List.length_map]
  exact keptAt_le _ _ _
theorem PB.fuse {b : List S35 × List S35 × List S37} (h : PB b) : PB ((fuseP b.1 b.2.2).1, (fuseP b.2.1 []).1, (fuseP b.1 b.2.2).2) := by
  obtain ⟨a1, a2, a3, a4⟩ := fuse_pb h.n0 h.w0 h.w2
  obtain ⟨b1, b2, b3, b4⟩ := fuse_pb (l2 := []) h.n1 h.w1 (fun y hy => by simp at hy)
  exact ⟨Nat.le_trans a1 h.n0, Nat.le_trans b1 h.n1, by show (fuseP b.1 b.2.2).2.length ≤ _; rw [a2]; exact h.n2, a3, b3, a4⟩
theorem it_wf {old : List S35} (h : ∀ x ∈ old, wfS x) (op : Int) : ∀ (k : Nat) (c : Int), wfI c → wfI (it old op k c) := by
  intro k
  induction k with
  | zero => intro c hc; exact hc
  | succ k ih =>
    intro c hc
    rw [it]
    cases hv : hop old op (it old op k c) with
    | none => exact ih c hc
    | some v =>
      rw [Option.getD_some]
      unfold hop at hv
      repeat (split at hv; · cases hv)
      injection hv with hv
      subst hv
      unfold rdQ
      exact (wfS_at h _).1
theorem PB.thread {b : List S35 × List S35 × List S37} (h : PB b) : PB (b.1.map (placed (thr b.1)), b.2.1, b.2.2.map (placedR (thr b.1))) := by
  have hφ : ∀ p c, wfI c → wfI (thr b.1 p c) := fun p c hc => it_wf h.w0 p _ c hc
  refine ⟨by show (b.1.map _).length ≤ _; rw [List.length_map]; exact h.n0, h.n1, by show (b.2.2.map _).length ≤ _; rw [List.length_map]; exact h.n2, fun x hx => ?_, h.w1, rows_wf hφ h.w2⟩
  obtain ⟨y, hy, rfl⟩ := List.mem_map.1 hx
  exact placed_wf hφ (h.w0 y hy)
theorem trim_pb {r : List Bool} {l0 : List S35} {l2 : List S37} : (trimP r l0 l2).1.length ≤ l0.length ∧ (trimRows r l0 l2).length ≤ l2.length := by
  refine ⟨?_, ?_⟩
  · unfold trimP; rw [List.length_map]; exact keptAt_le _ _ _
  · unfold trimRows
    split
    · simp [trimP]
    · simp
theorem reached_up {k m : Nat} {l0 : List S35} {l1 : List S37} {r : List Bool} (h : opt_reached.f k l0 l1 = some r) (hle : k ≤ m) : opt_reached.f m l0 l1 = some r := by
  induction m with
  | zero => have : k = 0 := by omega
            subst this; exact h
  | succ m ih =>
    by_cases e : k = m + 1
    · subst e; exact h
    · exact opt_reached.mono _ _ _ r (ih (by omega))
theorem trimF_some {b : List S35 × List S35 × List S37} (h : PB b) : ∃ k r, TrimF k b.1 b.2.1 b.2.2 = some r ∧ r.1.length ≤ b.1.length ∧ r.2.1.length ≤ b.2.1.length ∧ r.2.2.length ≤ b.2.2.length := by
  have n0 := h.n0; have n1 := h.n1; have n2 := h.n2
  have hm : b.1.length * (b.2.2.length + 3) ≤ 1048576 * 1048579 := Nat.mul_le_mul n0 (by omega)
  have hm1 : b.2.1.length * (([] : List S37).length + 3) ≤ 1048576 * 3 := Nat.mul_le_mul n1 (by simp)
  obtain ⟨k0, r0, a0, e0⟩ := reached_total (l0 := b.1) (l1 := b.2.2) (by omega) (by omega) (by omega)
  obtain ⟨k1, r1, a1, e1⟩ := reached_total (l0 := b.2.1) (l1 := []) (by omega) (by simp) (by omega)
  unfold TrimF
  by_cases he : b.1.length = 0 ∧ b.2.1.length = 0
  · exact ⟨0, b, by rw [if_pos h.ok, if_pos he], Nat.le_refl _, Nat.le_refl _, Nat.le_refl _⟩
  · refine ⟨k0 + k1, ((trimP r0 b.1 b.2.2).1, (trimP r1 b.2.1 []).1, trimRows r0 b.1 b.2.2), ?_, (trim_pb (l2 := b.2.2)).1, (trim_pb (l2 := [])).1, trim_pb.2⟩
    rw [if_pos h.ok, if_neg he, reached_up a0 (by omega)]
    simp only [Option.bind_some]
    rw [reached_up a1 (by omega)]
    simp only [Option.bind_some]
    rw [if_pos ⟨e0, e1⟩]
end Go.Proofs.Ytedghbjmhcgilaa.A
end
section
namespace Go.Proofs.Ytedghbjmhcgilaa.POpt
open Go.RowKit Go.Proofs.YtedghbjmhcgilaaW.PrintWords Go.Proofs.YtedghbjmhcgilaaW.PrintLast Go.Proofs.YtedghbjmhcgilaaW.PrintMore
def opt_Block.f (k:Nat) (l0_0:List (S35)) (l0_1:List (S35)) (l0_2:List (S37)):Option ((List (S35)) × (List (S35)) × (List (S37))):=A.BlockF k l0_0 l0_1 l0_2
theorem opt_Block.mono:∀ a0 a1 a2 k,LeO (opt_Block.f k a0 a1 a2) (opt_Block.f (k+1) a0 a1 a2):=A.BlockF_mono
theorem opt_Block.calls (k:Nat) (A0_0:Option Addr) (c0_0:Nat) (l0_0:List (S35)) (A0_1:Option Addr) (c0_1:Nat) (l0_1:List (S35)) (A0_2:Option Addr) (c0_2:Nat) (l0_2:List (S37)) (r1:List (S35)) (r2:List (S35)) (r3:List (S37)) (w:World) (hr0_0:Kd.C k35 w A0_0 l0_0.length l0_0) (hc0_0:l0_0.length≤c0_0) (hr0_1:Kd.C k35 w A0_1 l0_1.length l0_1) (hc0_1:l0_1.length≤c0_1) (hr0_2:Kd.C k37 w A0_2 l0_2.length l0_2) (hc0_2:l0_2.length≤c0_2) (h:opt_Block.f k l0_0 l0_1 l0_2=some (r1,r2,r3)) :
  Calls Try.prog 19 #[.agg #[.slice A0_0 l0_0.length c0_0,.slice A0_1 l0_1.length c0_1,.slice A0_2 l0_2.length c0_2]] w fun e w'=>∃ v0_ v1_ v2_:Value,e=.returned (.agg #[v0_,v1_,v2_])∧Kd.R k35 35 w' w.heap.size (fun k_=>some k_≠(v1_:Value).ownBlock) v0_ r1∧Kd.R k35 35 w' w.heap.size (fun k_=>some k_≠(v0_:Value).ownBlock) v1_ r2∧Kd.R k37 37 w' w.heap.size (fun _=>True) v2_ r3∧Below w.heap.size w w' :=
 A.BlockF_calls k A0_0 c0_0 l0_0 A0_1 c0_1 l0_1 A0_2 c0_2 l0_2 r1 r2 r3 w hr0_0 hc0_0 hr0_1 hc0_1 hr0_2 hc0_2 h
def lwawake.f (k:Nat) :Option (Bool):=(cartouchelaw13_Lowered.f).bind fun bt196=>((opt_Block.f k bt196.1 bt196.2.1 bt196.2.2).bind fun bt205=>((lwBetter.f).bind fun bt214=>((lwsame.f k bt205.1 bt205.2.1 bt205.2.2 bt214.1 bt214.2.1 bt214.2.2).bind fun t223=>(some t223))))
theorem lwawake.mono:∀ k,LeO (lwawake.f k ) (lwawake.f (k+1) ):=by
  intro  k
  unfold lwawake.f
  repeat' first | (with_reducible exact lwsame.mono _ _ _ _ _ _ _) | (with_reducible exact opt_Block.mono _ _ _ _) | (with_reducible exact LeO.refl _) | (with_reducible refine LeO.bind ?_ (fun _=>?_))
set_option maxHeartbeats 8000000 in
set_option maxRecDepth 100000 in
theorem lwawake.calls (k:Nat)  (r:Bool) (w:World) (h:lwawake.f k =some r) :
    Calls Try.prog 8 #[] w fun e w'=>e=.returned (.bool r)∧Below w.heap.size w w':=by
 have HB:=Aside0.mk (Below.refl w.heap.size w)
 have H:((cartouchelaw13_Lowered.f).bind fun al=>((opt_Block.f k al.1 al.2.1 al.2.2).bind fun am=>((lwBetter.f).bind fun an=>((lwsame.f k am.1 am.2.1 am.2.2 an.1 an.2.1 an.2.2).bind fun aG=>(some aG)))))=some r:=h
 clear h
 replace H:=Option.bind_eq_some_iff.mp H
 obtain ⟨⟨ax,ay,az⟩,bf,H⟩:=H
 try dsimp only at H
 have A1:=Aside0.mk bf
 clear bf
 replace H:=Option.bind_eq_some_iff.mp H
 obtain ⟨⟨aA,aB,aC⟩,bg,H⟩:=H
 try dsimp only at H
 have A2:=Aside0.mk bg
 clear bg
 replace H:=Option.bind_eq_some_iff.mp H
 obtain ⟨⟨aD,aE,aF⟩,bh,H⟩:=H
 try dsimp only at H
 have A3:=Aside0.mk bh
 clear bh
 replace H:=Option.bind_eq_some_iff.mp H
 obtain ⟨aG,bi,H⟩:=H
 try dsimp only at H
 have A4:=Aside0.mk bi
 clear bi
 obtain rfl:=Option.some.inj H
 go_enter Try.func8,Try.ntmps8
 go_wp2_with (first | ((with_reducible refine gate_callee (f:=21) rfl ?_);refine goesL_ (some 1) rfl rfl Try.func21 (by kernel_rfl) rfl #[] rfl (by (try simp only [List.map_toArray,List.map_cons,List.map_nil]);(done)) ?_;(with_reducible refine (cartouchelaw13_Lowered.calls  ax ay az _ A1.out).mono ?_);rintro e w5 ⟨bs,bt,bu,rfl,aj,ak,ao,hb⟩;refine ⟨_,rfl,?_⟩;have aa:=ql aj HB;have ab:=ql ak HB;have ac:=ql ao HB;replace HB:=qs HB hb;(try clear hb);(try clear aj);(try clear ak);(try clear ao);obtain ⟨bj,bm,bp⟩:=Kd.R_slice aa.out;subst bp;obtain ⟨bk,bn,bq⟩:=Kd.R_slice ab.out;subst bq;obtain ⟨bl,bo,br⟩:=Kd.R_slice ac.out;subst br)|((with_reducible refine gate_callee (f:=19) rfl ?_);refine goesL_ (some 2) rfl rfl Try.func19 (by kernel_rfl) rfl #[.agg #[.slice bj ax.length bm,.slice bk ay.length bn,.slice bl az.length bo]] rfl (by (try simp only [List.map_toArray,List.map_cons,List.map_nil]);(rfl)) ?_;(with_reducible refine (opt_Block.calls k _ _ ax _ _ ay _ _ az aA aB aC _ ?ap ?aq ?ar ?au ?av ?aw A2.out).mono ?_);(case ap=>exact (Kd.R_reads' aa.out).2.2);(case aq=>exact (Kd.R_reads' aa.out).2.1);(case ar=>exact (Kd.R_reads' ab.out).2.2);(case au=>exact (Kd.R_reads' ab.out).2.1);(case av=>exact (Kd.R_reads' ac.out).2.2);(case aw=>exact (Kd.R_reads' ac.out).2.1);rintro e w9 ⟨bv,bw,bx,rfl,aj,ak,ao,hb⟩;refine ⟨_,rfl,?_⟩;have ad:=ql (qw (qw aj aa) ab) HB;have ae:=ql (qw (qw ak aa) ab) HB;replace aa:=qt aa hb aj ak;replace ab:=qt ab hb aj ak;have af:=ql (qw ao ac) HB;replace ac:=qe ac ao hb;replace HB:=qs HB hb;(try clear hb);(try clear aj);(try clear ak);(try clear ao))|((with_reducible refine gate_callee (f:=23) rfl ?_);refine goesL_ (some 3) rfl rfl Try.func23 (by kernel_rfl) rfl #[] rfl (by (try simp only [List.map_toArray,List.map_cons,List.map_nil]);(done)) ?_;(with_reducible refine (lwBetter.calls  aD aE aF _ A3.out).mono ?_);rintro e bC ⟨bz,bA,bB,rfl,aj,ak,ao,hb⟩;refine ⟨_,rfl,?_⟩;have ag:=ql (qw (qw (qw (qw aj aa) ab) ad) ae) HB;have ah:=ql (qw (qw (qw (qw ak aa) ab) ad) ae) HB;replace aa:=qt aa hb aj ak;replace ab:=qt ab hb aj ak;replace ad:=qt ad hb aj ak;replace ae:=qt ae hb aj ak;have ai:=ql (qw (qw ao ac) af) HB;replace ac:=qe ac ao hb;replace af:=qe af ao hb;replace HB:=qs HB hb;(try clear hb);(try clear aj);(try clear ak);(try clear ao);obtain ⟨aN,aT,aZ⟩:=Kd.R_slice ad.out;subst aZ;obtain ⟨aO,aU,ba⟩:=Kd.R_slice ae.out;subst ba;obtain ⟨aP,aV,bb⟩:=Kd.R_slice af.out;subst bb;obtain ⟨aQ,aW,bc⟩:=Kd.R_slice ag.out;subst bc;obtain ⟨aR,aX,bd⟩:=Kd.R_slice ah.out;subst bd;obtain ⟨aS,aY,be⟩:=Kd.R_slice ai.out;subst be)|((with_reducible refine gate_callee (f:=10) rfl ?_);refine goesL_ (some 4) rfl rfl Try.func10 (by kernel_rfl) rfl #[.agg #[.slice aN aA.length aT,.slice aO aB.length aU,.slice aP aC.length aV],.agg #[.slice aQ aD.length aW,.slice aR aE.length aX,.slice aS aF.length aY]] rfl (by (try simp only [List.map_toArray,List.map_cons,List.map_nil]);(rfl)) ?_;(with_reducible refine (lwsame.calls k _ _ aA _ _ aB _ _ aC _ _ aD _ _ aE _ _ aF aG _ ?ap ?aq ?ar ?au ?av ?aw ?aK ?aL ?aM ?aH ?aI ?aJ A4.out).mono ?_);(case ap=>exact (Kd.R_reads' ad.out).2.2);(case aq=>exact (Kd.R_reads' ad.out).2.1);(case ar=>exact (Kd.R_reads' ae.out).2.2);(case au=>exact (Kd.R_reads' ae.out).2.1);(case av=>exact (Kd.R_reads' af.out).2.2);(case aw=>exact (Kd.R_reads' af.out).2.1);(case aK=>exact (Kd.R_reads' ag.out).2.2);(case aL=>exact (Kd.R_reads' ag.out).2.1);(case aM=>exact (Kd.R_reads' ah.out).2.2);(case aH=>exact (Kd.R_reads' ah.out).2.1);(case aI=>exact (Kd.R_reads' ai.out).2.2);(case aJ=>exact (Kd.R_reads' ai.out).2.1);rintro e bD ⟨rfl,hb⟩;refine ⟨_,rfl,?_⟩;replace aa:=qB aa hb;replace ab:=qB ab hb;replace ac:=qB ac hb;replace ad:=qB ad hb;replace ae:=qB ae hb;replace af:=qB af hb;replace ag:=qB ag hb;replace ah:=qB ah hb;replace ai:=qB ai hb;replace HB:=qs HB hb;(try clear hb)))
 go_ret
 exact ⟨by (rfl),HB.out⟩
def opt_Tables.f (l0_0:List (S35)) (l0_1:List (S35)) (l0_2:List (S37)):Option ((List (S35)) × (List (S35)) × (List (S37))):=A.TablesF l0_0 l0_1 l0_2
theorem opt_Tables.calls (A0_0:Option Addr) (c0_0:Nat) (l0_0:List (S35)) (A0_1:Option Addr) (c0_1:Nat) (l0_1:List (S35)) (A0_2:Option Addr) (c0_2:Nat) (l0_2:List (S37)) (r1:List (S35)) (r2:List (S35)) (r3:List (S37)) (w:World) (hr0_0:Kd.C k35 w A0_0 l0_0.length l0_0) (hc0_0:l0_0.length≤c0_0) (hr0_1:Kd.C k35 w A0_1 l0_1.length l0_1) (hc0_1:l0_1.length≤c0_1) (hr0_2:Kd.C k37 w A0_2 l0_2.length l0_2) (hc0_2:l0_2.length≤c0_2) (h:opt_Tables.f l0_0 l0_1 l0_2=some (r1,r2,r3)) :
  Calls Try.prog 11 #[.agg #[.slice A0_0 l0_0.length c0_0,.slice A0_1 l0_1.length c0_1,.slice A0_2 l0_2.length c0_2]] w fun e w'=>∃ v0_ v1_ v2_:Value,e=.returned (.agg #[v0_,v1_,v2_])∧Kd.R k35 35 w' w.heap.size (fun k_=>some k_≠(v1_:Value).ownBlock) v0_ r1∧Kd.R k35 35 w' w.heap.size (fun k_=>some k_≠(v0_:Value).ownBlock) v1_ r2∧Kd.R k37 37 w' w.heap.size (fun _=>True) v2_ r3∧Below w.heap.size w w' :=
 A.TablesF_calls A0_0 c0_0 l0_0 A0_1 c0_1 l0_1 A0_2 c0_2 l0_2 r1 r2 r3 w hr0_0 hc0_0 hr0_1 hc0_1 hr0_2 hc0_2 h
def opt_Fuse.f (l0_0:List (S35)) (l0_1:List (S35)) (l0_2:List (S37)):Option ((List (S35)) × (List (S35)) × (List (S37))):=A.FuseF l0_0 l0_1 l0_2
theorem opt_Fuse.calls (A0_0:Option Addr) (c0_0:Nat) (l0_0:List (S35)) (A0_1:Option Addr) (c0_1:Nat) (l0_1:List (S35)) (A0_2:Option Addr) (c0_2:Nat) (l0_2:List (S37)) (r1:List (S35)) (r2:List (S35)) (r3:List (S37)) (w:World) (hr0_0:Kd.C k35 w A0_0 l0_0.length l0_0) (hc0_0:l0_0.length≤c0_0) (hr0_1:Kd.C k35 w A0_1 l0_1.length l0_1) (hc0_1:l0_1.length≤c0_1) (hr0_2:Kd.C k37 w A0_2 l0_2.length l0_2) (hc0_2:l0_2.length≤c0_2) (h:opt_Fuse.f l0_0 l0_1 l0_2=some (r1,r2,r3)) :
  Calls Try.prog 13 #[.agg #[.slice A0_0 l0_0.length c0_0,.slice A0_1 l0_1.length c0_1,.slice A0_2 l0_2.length c0_2]] w fun e w'=>∃ v0_ v1_ v2_:Value,e=.returned (.agg #[v0_,v1_,v2_])∧Kd.R k35 35 w' w.heap.size (fun k_=>some k_≠(v1_:Value).ownBlock) v0_ r1∧Kd.R k35 35 w' w.heap.size (fun k_=>some k_≠(v0_:Value).ownBlock) v1_ r2∧Kd.R k37 37 w' w.heap.size (fun _=>True) v2_ r3∧Below w.heap.size w w' :=
 A.FuseF_calls A0_0 c0_0 l0_0 A0_1 c0_1 l0_1 A0_2 c0_2 l0_2 r1 r2 r3 w hr0_0 hc0_0 hr0_1 hc0_1 hr0_2 hc0_2 h
def opt_Thread.f (l0_0:List (S35)) (l0_1:List (S35)) (l0_2:List (S37)):Option ((List (S35)) × (List (S35)) × (List (S37))):=A.ThreadF l0_0 l0_1 l0_2
theorem opt_Thread.calls (A0_0:Option Addr) (c0_0:Nat) (l0_0:List (S35)) (A0_1:Option Addr) (c0_1:Nat) (l0_1:List (S35)) (A0_2:Option Addr) (c0_2:Nat) (l0_2:List (S37)) (r1:List (S35)) (r2:List (S35)) (r3:List (S37)) (w:World) (hr0_0:Kd.C k35 w A0_0 l0_0.length l0_0) (hc0_0:l0_0.length≤c0_0) (hr0_1:Kd.C k35 w A0_1 l0_1.length l0_1) (hc0_1:l0_1.length≤c0_1) (hr0_2:Kd.C k37 w A0_2 l0_2.length l0_2) (hc0_2:l0_2.length≤c0_2) (h:opt_Thread.f l0_0 l0_1 l0_2=some (r1,r2,r3)) :
  Calls Try.prog 15 #[.agg #[.slice A0_0 l0_0.length c0_0,.slice A0_1 l0_1.length c0_1,.slice A0_2 l0_2.length c0_2]] w fun e w'=>∃ v0_ v1_ v2_:Value,e=.returned (.agg #[v0_,v1_,v2_])∧Kd.R k35 35 w' w.heap.size (fun k_=>some k_≠(v1_:Value).ownBlock) v0_ r1∧Kd.R k35 35 w' w.heap.size (fun k_=>some k_≠(v0_:Value).ownBlock) v1_ r2∧Kd.R k37 37 w' w.heap.size (fun _=>True) v2_ r3∧Below w.heap.size w w' :=
 A.ThreadF_calls A0_0 c0_0 l0_0 A0_1 c0_1 l0_1 A0_2 c0_2 l0_2 r1 r2 r3 w hr0_0 hc0_0 hr0_1 hc0_1 hr0_2 hc0_2 h
def opt_Trim.f (k:Nat) (l0_0:List (S35)) (l0_1:List (S35)) (l0_2:List (S37)):Option ((List (S35)) × (List (S35)) × (List (S37))):=A.TrimF k l0_0 l0_1 l0_2
theorem opt_Trim.calls (k:Nat) (A0_0:Option Addr) (c0_0:Nat) (l0_0:List (S35)) (A0_1:Option Addr) (c0_1:Nat) (l0_1:List (S35)) (A0_2:Option Addr) (c0_2:Nat) (l0_2:List (S37)) (r1:List (S35)) (r2:List (S35)) (r3:List (S37)) (w:World) (hr0_0:Kd.C k35 w A0_0 l0_0.length l0_0) (hc0_0:l0_0.length≤c0_0) (hr0_1:Kd.C k35 w A0_1 l0_1.length l0_1) (hc0_1:l0_1.length≤c0_1) (hr0_2:Kd.C k37 w A0_2 l0_2.length l0_2) (hc0_2:l0_2.length≤c0_2) (h:opt_Trim.f k l0_0 l0_1 l0_2=some (r1,r2,r3)) :
  Calls Try.prog 17 #[.agg #[.slice A0_0 l0_0.length c0_0,.slice A0_1 l0_1.length c0_1,.slice A0_2 l0_2.length c0_2]] w fun e w'=>∃ v0_ v1_ v2_:Value,e=.returned (.agg #[v0_,v1_,v2_])∧Kd.R k35 35 w' w.heap.size (fun k_=>some k_≠(v1_:Value).ownBlock) v0_ r1∧Kd.R k35 35 w' w.heap.size (fun k_=>some k_≠(v0_:Value).ownBlock) v1_ r2∧Kd.R k37 37 w' w.heap.size (fun _=>True) v2_ r3∧Below w.heap.size w w' :=
 A.TrimF_calls A0_0 c0_0 l0_0 A0_1 c0_1 l0_1 A0_2 c0_2 l0_2 r1 r2 r3 w hr0_0 hc0_0 hr0_1 hc0_1 hr0_2 hc0_2 k h
end Go.Proofs.Ytedghbjmhcgilaa.POpt
end
