import Derived.Maps.OwnOps
import Derived.Maps.OwnSet
import Derived.OwnWalk
import Derived.Deep.CutBlock
import Derived.Deep.RegionHeld3
import Derived.Test.YtedghbjmhcgilaaKp5
import Derived.Test.YtedghbjmhcgilaaKp7
import Derived.Test.YtedghbjmhcgilaaKp12
import Derived.Test.YtedghbjmhcgilaaKp13
set_option linter.unusedVariables false
set_option linter.unusedSimpArgs false
section
namespace Go.Proofs.Ytedghbjmhcgilaa.A
open Go.RowKit Go.Shelf Go.Maps Go.Proofs.YtedghbjmhcgilaaW.PrintWords Go.Proofs.YtedghbjmhcgilaaW.PrintLast Go.Proofs.YtedghbjmhcgilaaW.PrintMore
open Go.Proofs.Ytedghbjmhcgilaa.POpt
theorem law3:Keyed Try.prog 3:=int_keyed Try.underlying3
theorem zero3 (w:World):(zeroValue 3).run Try.prog w=.ok (.int .i64 0) w:=by kernel_rfl
def IMap (W:World) (b N:Nat) (f:Int→Option Int):Prop :=
 ∃ D:DataW Unit,W.ownsMap Try.prog 3 (plainElem Try.prog 3) b N D∧Maps.IsMap D∧∀ k:Int,(Lit.int .i64 k).wf=true→Maps.has D (.int .i64 k)=(f k).isSome∧∀ v z,f k=some v→D.atKey (.int .i64 k) z=.lit (.int .i64 v)
theorem IMap.put_law {W:World} {b N:Nat} {f:Int→Option Int} {D:DataW Unit} {W':World} (k v:Int) (hk:(Lit.int .i64 k).wf=true) (hv:(Lit.int .i64 v).wf=true)
  (hm:Maps.IsMap D) (hf:∀ k:Int,(Lit.int .i64 k).wf=true→Maps.has D (.int .i64 k)=(f k).isSome∧∀ v z,f k=some v→D.atKey (.int .i64 k) z=.lit (.int .i64 v))
  (h:W'.ownsMap Try.prog 3 (plainElem Try.prog 3) b (N+1) (D.put (.int .i64 k) (.lit (.int .i64 v)))):IMap W' b (N+1) (fun x=>if x=k then some v else f x):=by
 refine ⟨_,h,hm.put _ _,fun x hx=>?_⟩
 have hkl:WideAt.IsKeyLit (Lit.int .i64 k):=trivial
 by_cases hxk:x=k
 ·subst hxk
  simp only [if_true]
  exact ⟨Maps.has_put_same hm hkl _,fun v' z e=>by injection e with e;subst e;exact Maps.atKey_put_same hm hkl _ _⟩
 ·simp only [if_neg hxk]
  have hne:(Lit.int .i64 x)≠.int .i64 k:=fun e=>hxk (by injection e)
  rw [Maps.has_put_other hne]
  exact ⟨(hf x hx).1,fun v' z e=>by rw [Maps.atKey_put_other hne];exact (hf x hx).2 v' z e⟩
theorem lit_inj {a b:Int} (h:(DataW.lit (Lit.int .i64 a):DataW Unit)=.lit (.int .i64 b)):a=b:=by
 injection h with h
 injection h
theorem IMap.look {W:World} {b N:Nat} {f:Int→Option Int} (h:IMap W b N f) (k:Int) (hk:(Lit.int .i64 k).wf=true) :
  (Instr.lookup 101 (.map (some b)) (.int .i64 k) true).run Try.prog W=.ok (.tuple #[.int .i64 ((f k).getD 0),.bool (f k).isSome]) W:=by
 obtain ⟨D,ho,hm,hf⟩:=h
 obtain ⟨v,ps,hrun,hv⟩:=ho.look_ok law3 Try.underlying101 (zero3 W) (plainElem_int Try.underlying3 (by decide)) (keyOf_int_mk Try.underlying3 hk)
 obtain ⟨c,rfl,hc,hwc⟩:=plainElem_int_inv Try.underlying3 hv
 rw [hrun,(hf k hk).1]
 have hcc:=congrArg Prod.fst hc
 cases hfk:f k with
 | some u =>
  have:=(hf k hk).2 u (.lit (.int .i64 0)) hfk
  simp only at hcc
  rw [this] at hcc
  have hcc:=lit_inj hcc
  simp only [hcc,Option.getD_some,Option.isSome_some]
 | none =>
  have hno:Maps.has D (.int .i64 k)=false:=by rw [(hf k hk).1,hfk];rfl
  simp only at hcc
  rw [Maps.atKey_of_not_has hno] at hcc
  have hcc:=lit_inj hcc
  simp only [← hcc,Option.getD_none,Option.isSome_none]
theorem IMap.made (w:World):IMap (w.alloc (.map #[] 0)) w.heap.size 0 (fun _=>none) :=
 ⟨_,World.ownsMap_made w Try.prog 3 _,Maps.isMap_empty,fun k hk=>⟨rfl,fun v z e=>by cases e⟩⟩
theorem IMap.same {W W':World} {b N:Nat} {f:Int→Option Int} (h:IMap W b N f) (hb:W'.heap[b]?=W.heap[b]?):IMap W' b N f:=by
 obtain ⟨D,⟨es,clock,h1,h2⟩,r⟩:=h
 exact ⟨D,⟨es,clock,hb.trans h1,h2⟩,r⟩
theorem IMap.lt {W:World} {b N:Nat} {f:Int→Option Int} (h:IMap W b N f):b < W.heap.size:=by
 obtain ⟨D,⟨es,clock,h1,h2⟩,r⟩:=h
 exact (Array.getElem?_eq_some_iff.1 h1).1
theorem wf64 {x:Int} (h:-9223372036854775808≤x∧x≤9223372036854775807):(Lit.int .i64 x).wf=true:=WalkArith.wf_i64 (by omega)
theorem zero49 (w:World):(zeroValue 49).run Try.prog w=.ok (.agg #[]) w:=by kernel_rfl
def SMap (W:World) (b N:Nat) (S:Int→Bool):Prop :=
 ∃ D:DataW Unit,W.ownsMap Try.prog 3 unitElem b N D∧Maps.IsMap D∧∀ k:Int,(Lit.int .i64 k).wf=true→Maps.has D (.int .i64 k)=S k
theorem SMap.put_law {W':World} {b N:Nat} {S:Int→Bool} {D:DataW Unit} (k:Int)
  (hm:Maps.IsMap D) (hf:∀ k:Int,(Lit.int .i64 k).wf=true→Maps.has D (.int .i64 k)=S k)
  (h:W'.ownsMap Try.prog 3 unitElem b (N+1) (D.put (.int .i64 k) (.agg []))):SMap W' b (N+1) (fun x=>x == k || S x):=by
 refine ⟨_,h,hm.put _ _,fun x hx=>?_⟩
 have hkl:WideAt.IsKeyLit (Lit.int .i64 k):=trivial
 by_cases hxk:x=k
 ·subst hxk
  rw [Maps.has_put_same hm hkl];simp
 ·have hne:(Lit.int .i64 x)≠.int .i64 k:=fun e=>hxk (by injection e)
  rw [Maps.has_put_other hne,hf x hx]
  simp [hxk]
theorem SMap.look {W:World} {b N:Nat} {S:Int→Bool} (h:SMap W b N S) (k:Int) (hk:(Lit.int .i64 k).wf=true) :
  (Instr.lookup 48 (.map (some b)) (.int .i64 k) true).run Try.prog W=.ok (.tuple #[.agg #[],.bool (S k)]) W:=by
 obtain ⟨D,ho,hm,hf⟩:=h
 obtain ⟨v,ps,hrun,hv⟩:=ho.look_ok law3 Try.underlying48 (zero49 W) unitElem_mk (keyOf_int_mk Try.underlying3 hk)
 obtain ⟨rfl,_⟩:=unitElem_inv hv
 rw [hrun,hf k hk]
theorem SMap.made (w:World):SMap (w.alloc (.map #[] 0)) w.heap.size 0 (fun _=>false) :=
 ⟨_,World.ownsMap_made w Try.prog 3 _,Maps.isMap_empty,fun k hk=>rfl⟩
theorem SMap.same {W W':World} {b N:Nat} {S:Int→Bool} (h:SMap W b N S) (hb:W'.heap[b]?=W.heap[b]?):SMap W' b N S:=by
 obtain ⟨D,⟨es,clock,h1,h2⟩,r⟩:=h
 exact ⟨D,⟨es,clock,hb.trans h1,h2⟩,r⟩
theorem SMap.lt {W:World} {b N:Nat} {S:Int→Bool} (h:SMap W b N S):b < W.heap.size:=by
 obtain ⟨D,⟨es,clock,h1,h2⟩,r⟩:=h
 exact (Array.getElem?_eq_some_iff.1 h1).1
end Go.Proofs.Ytedghbjmhcgilaa.A
end
section
namespace Go.Proofs.Ytedghbjmhcgilaa.A
open Go.RowKit Go.Shelf Go.Maps Go.Proofs.YtedghbjmhcgilaaW.PrintWords Go.Proofs.YtedghbjmhcgilaaW.PrintLast Go.Proofs.YtedghbjmhcgilaaW.PrintMore
open Go.Proofs.Ytedghbjmhcgilaa.POpt
attribute [local go_sem] Oper.semAt_some
set_option maxRecDepth 100000 in
set_option maxHeartbeats 2000000 in
theorem without_calls (A0:Option Addr) (c0:Nat) (l0:List S35) (A1:Option Addr) (c1:Nat) (l1:List S37) (A2:Option Addr) (c2:Nat) (out:List Bool) (w:World) (bV:Nat) (okR:Nat→Prop)
  (hr0:Kd.C k35 w A0 l0.length l0) (hc0:l0.length≤c0) (hr1:Kd.R k37 37 w bV okR (.slice A1 l1.length c1) l1) (hr2:Kd.C Kd.bool w A2 out.length out) (hc2:out.length≤c2)
  (hlen:out.length=l0.length) (hs0:l0.length < 3518437208883) (hs1:l1.length≤140737488355328) (hbV:bV≤w.heap.size) (hw0:∀ x ∈ l0,wfS x) (hw1:∀ x ∈ l1,wfI x.f1) :
  Calls Try.prog 58 #[.slice A0 l0.length c0,.slice A1 l1.length c1,.slice A2 out.length c2] w fun e w'=>∃ v:Value,e=.returned v∧Kd.R k35 35 w' w.heap.size (fun _=>True) v ((keptAt l0 out l0.length).map (placed (toNow out l0.length)))∧Kd.R k37 37 w' bV okR (.slice A1 l1.length c1) (l1.map (placedR (toNow out l0.length)))∧Below bV w w'∧(∀ k,k < w.heap.size→some k≠(Value.slice A1 l1.length c1).ownBlock→w'.heap[k]?=w.heap[k]?):=by
 refine (callsIn_wide (n:=8)).1 ?_
 refine callsIn_of_wp_marks Try.func58 rfl trivial ?_ rfl
 simp only [Try.ntmps58,List.size_toArray,List.length_cons,List.length_nil,Nat.reduceAdd,Nat.reduceSub,Array.replicate_succ,Array.replicate_zero,List.push_toArray,List.append_toArray,List.nil_append,List.cons_append]
 rw [wpIn_wide]
 have hmm:=@run_makeMap Try.prog
 have HR0:=Lib.hid hr0
 have HR1:=Lib.hid hr1
 have HR2:=Lib.hid hr2
 have HW0:=Lib.hid hw0
 have HW1:=Lib.hid hw1
 clear hr0 hr1 hr2 hw0 hw1
 go_wp2_with (first | ((with_reducible refine gate_dst (N:=18) rfl ?_);go_loud (refine Kd.R_makecap k35 _ 35 rfl (N:=18) rfl 27 _ _ rfl (l0.length:Int) rfl rfl Try.underlying27 (.agg #[(.int .i64 0),(.int .i64 0),(.int .i64 0),(.int .i64 0),(.int .i64 0)]) 40 info35 rfl (by decide) (by omega) z35 (ok:=fun _=>True) (okp:=fun _=>True) (k35_mkM _ _ _ z35 ) (fun _ hk=>hk) trivial (by omega) (by omega) (Below.refl _ _) (Nat.le_refl _) ?_);intro v1 w1 ho1 hb1 hg1 hnew1;have HO1:=Lib.hid ho1;have HB1:=Lib.hid hb1;clear ho1 hb1 hg1 hnew1))
 have hbw1:Below w.heap.size w w1:=(((Below.refl _ _).alloc (Nat.le_refl _) _).alloc (by simp) _).trans (HB1.out.mono (by simp;omega))
 have hmp:w1.heap[w.heap.size]?=some (.map #[] 0):=blk_below (bk_a (blk_new _ _) _) HB1.out
 have hpt:w1.heap[w.heap.size+1]?=some (.cells #[.map (some w.heap.size)] 101 (0,0)):=blk_below (by have:=blk_new (w.alloc (.map #[] 0)) (.cells #[.map (some w.heap.size)] 101 (0,0));simpa using this) HB1.out
 have himap:IMap w1 w.heap.size 0 (nowAt out 0):=by rw [nowAt_zero];exact (IMap.made w).same (hmp.trans (blk_new _ _).symm)
 have HO2:=Lib.hid (Kd.R_lower HO1.out (show w.heap.size+2≤_ by simp))
 have HBW:=Lib.hid hbw1
 have HPT:=Lib.hid hpt
 have HIM:=Lib.hid himap
 clear HO1 HB1 hbw1 hpt himap hmp
 go_loopw [8,21] (fun s8 s21 wl=>∃ (k N:Nat) (v:Value),k≤l0.length∧N≤k∧s21=.int .i64 k∧s8=v∧Hid (Below w.heap.size w wl)∧Hid (Kd.R k35 35 wl (w.heap.size+2) (fun _=>True) v (keptAt l0 out k))∧Hid (IMap wl w.heap.size N (nowAt out k))∧Hid (wl.heap[w.heap.size+1]?=some (.cells #[.map (some w.heap.size)] 101 (0,0)))) (fun _ s21 _=>l0.length - (intOf s21).toNat)
 case atStart=>exact ⟨0,0,_,Nat.zero_le _,Nat.le_refl _,rfl,rfl,HBW,HO2,HIM,HPT⟩
 case round =>
  obtain ⟨k,N,v,hk,hN,rfl,rfl,HB,HO,HM,HP⟩:=hrel
  by_cases hlt:k < l0.length
  ·have hltz:(k:Int) < (l0.length:Int):=by omega
   have hzo:k < out.length:=by omega
   obtain ⟨ad,eA,q0,q1,q2,q3,q4⟩:=at_T35 (Kd.C_below HR0.out HB.out) (k:Int) (by omega) (by omega)
   subst eA
   obtain ⟨ad2,eA2,qb⟩:=Kd.at_bool (Kd.C_below HR2.out HB.out) (k:Int) (by omega) (by omega)
   subst eA2
   rw [rdS hlt] at q0 q1 q2 q3 q4
   rw [rdB hzo] at qb
   simp only [Int.toNat_natCast] at q0 q1 q2 q3 q4 qb
   have hl2:=World.block_lt_of_cell? _ _ qb
   have kp:=bk_c HP.out 0
   simp only [List.getElem?_toArray,List.getElem?_cons_zero] at kp
   have hlp:=blk_lt HP.out
   have hle1:w.heap.size≤wr.heap.size:=HB.out.size
   by_cases hb:out[k]=true
   ·rw [hb] at qb
    go_wp2_with fail
    refine ⟨⟨k+1,N,u8,by omega,by omega,by go_num,rfl,?_,?_,?_,?_⟩,by simp [intOf];omega⟩
    ·exact HB.out.alloc hle1 _
    ·rw [keptAt_succ hlt hlen,if_pos hb];exact Kd.R_alloc HO.out _
    ·rw [nowAt_true hzo hb];exact HM.out.same (Below.heap_alloc _ _ _ HM.out.lt)
    ·exact bk_a HP.out _
   ·have hb:out[k]=false:=by simpa using hb
    rw [hb] at qb
    obtain ⟨Av,cv,ev⟩:=Kd.R_slice HO.out
    subst ev
    have HM2:IMap (wr.alloc (.cells #[.int .i64 l0[k].f0,.int .i64 l0[k].f1,.int .i64 l0[k].f2,.int .i64 l0[k].f3,.int .i64 l0[k].f4] 35)) w.heap.size N (nowAt out k):=HM.out.same (Below.heap_alloc _ _ _ HM.out.lt)
    have HO2':=Lib.hid (Kd.R_bound (Kd.R_alloc HO.out (.cells #[.int .i64 l0[k].f0,.int .i64 l0[k].f1,.int .i64 l0[k].f2,.int .i64 l0[k].f3,.int .i64 l0[k].f4] 35)))
    have hkl:=keptAt_le l0 out k
    have HBX:=Lib.hid (blk_new wr (.cells #[.int .i64 l0[k].f0,.int .i64 l0[k].f1,.int .i64 l0[k].f2,.int .i64 l0[k].f3,.int .i64 l0[k].f4] 35 (0,0)))
    obtain ⟨D,hown,hisM,hf⟩:=HM2
    have hwk:(Lit.int .i64 (k:Int)).wf=true:=wf64 (by omega)
    have hwv:(Lit.int .i64 ((keptAt l0 out k).length:Int)).wf=true:=wf64 (by omega)
    have HPUT:=Lib.hid (fun W'=>IMap.put_law (W:=wr) (W':=W') (b:=w.heap.size) (N:=N) (k:Int) ((keptAt l0 out k).length:Int) hwk hwv hisM hf)
    clear hisM hf
    go_wp2_with (first | (at_mapUpdate;go_loud (refine wpList_mapUpdate_own _ rfl _ _ _ 101 rfl 3 3 law3 Try.underlying101 _ w.heap.size N D rfl hown (by unfold maxLen;omega) _ _ (.int .i64 (k:Int)) rfl rfl (keyOf_int_mk Try.underlying3 hwk) (.lit (.int .i64 ((keptAt l0 out k).length:Int))) [] (plainElem_int Try.underlying3 hwv) ?_);intro w2 hown2 hg2;have HM3:=Lib.hid (HPUT.out _ hown2);have HO3:=Lib.hid (Kd.R_mono (ok':=fun _=>True) (Kd.R_move HO2'.out (fun k_ hk_=>hg2.block k_ hk_.2.2.1 (fun e_=>by have:=hk_.2.1;injection e_;omega))) (fun _ _=>trivial));have HBX2:=Lib.hid (blk_grown HBX.out hg2 (fun e_=>by injection e_;omega));have HP2:=Lib.hid (blk_grown (bk_a HP.out _) hg2 (fun e_=>by injection e_;omega));have HB2:=Lib.hid ((HB.out.alloc hle1 (.cells #[.int .i64 l0[k].f0,.int .i64 l0[k].f1,.int .i64 l0[k].f2,.int .i64 l0[k].f3,.int .i64 l0[k].f4] 35)).grown hg2 (by simp;omega) (fun k e=>by injection e;omega));have hz2:=hg2.size;simp only [World.size_alloc] at hz2;have x0:=bk_c HBX2.out 0;have x1:=bk_c HBX2.out 1;have x2:=bk_c HBX2.out 2;have x3:=bk_c HBX2.out 3;have x4:=bk_c HBX2.out 4;simp only [List.getElem?_toArray,List.getElem?_cons_zero,List.getElem?_cons_succ] at x0 x1 x2 x3 x4;clear hown2 hg2) | ((with_reducible refine gate_builtin (b:=.append) (xs:=#[.tmp 35,.tmp 37]) rfl ?_);at_builtin;go_loud (refine Kd.R_append k35 (w0:=w2) (w.heap.size+2) rfl (.tmp 35) (.tmp 37) 27 35 (.agg #[(.int .i64 0),(.int .i64 0),(.int .i64 0),(.int .i64 0),(.int .i64 0)]) 40 rfl Try.underlying27 info35 rfl (by decide) (by omega) (.slice Av (keptAt l0 out k).length cv) (keptAt l0 out k) l0[k] [.int .i64 l0[k].f0,.int .i64 l0[k].f1,.int .i64 l0[k].f2,.int .i64 l0[k].f3,.int .i64 l0[k].f4] (fun _=>True) (fun _=>False) rfl rfl (k35_mkM _ _ _ l0[k]) (fun _ hk=>hk.elim) (fun _ _=>trivial) HO3.out (Below.refl _ _) (by omega) (by omega) ?_);intro v3 w3 ho3 hb3 hg3 hat3;have HO4:=Lib.hid ho3;have HB4:=Lib.hid hb3;clear ho3 hb3 hg3 hat3))
    refine ⟨⟨k+1,N+1,v3,by omega,by omega,by go_num,rfl,?_,?_,?_,?_⟩,by simp [intOf];omega⟩
    ·exact HB2.out.trans (HB4.out.mono (by omega))
    ·rw [keptAt_succ hlt hlen,if_neg (by simp [hb])];exact HO4.out
    ·rw [nowAt_false (l:=l0) hzo hlen hb];exact HM3.out.same (HB4.out.block _ (by omega))
    ·exact (HB4.out.block _ (by omega)).trans HP2.out
  ·have hkn:k=l0.length:=by omega
   subst hkn
   go_wp2_with fail
   obtain ⟨Av,cv,ev⟩:=Kd.R_slice HO.out
   subst ev
   refine (places_calls _ _ Av A1 (keptAt l0 out l0.length).length cv l1.length c1 _ rfl rfl).mono ?_
   rintro e w3 ⟨rfl,hw3⟩
   dsimp only
   go_wp2_with fail
   rw [← wpIn_wide (n:=8)]
   have hKb0:Below w.heap.size w w3:=by rw [← hw3];exact (HB.out.alloc HB.out.size _).alloc (by have:=HB.out.size;simp;omega) _
   have hzw:w.heap.size+1 < wr.heap.size:=blk_lt HP.out
   have zz3:w3.heap.size=wr.heap.size+2:=by rw [← hw3];simp
   have h3at:∀ k,k < wr.heap.size→w3.heap[k]?=wr.heap[k]?:=fun k h1=>by
    rw [← hw3,Below.heap_alloc _ _ _ (by simp;omega),Below.heap_alloc _ _ _ h1]
   have c1':w3.heap[wr.heap.size]?=some (.cells #[.slice Av (keptAt l0 out l0.length).length cv] 27 (0,0)):=by
    rw [← hw3];exact bk_a (blk_new wr _) _
   have c2':w3.heap[wr.heap.size+1]?=some (.cells #[.slice A1 l1.length c1] 28 (0,0)):=by
    rw [← hw3]
    have:=blk_new (wr.alloc (.cells #[.slice Av (keptAt l0 out l0.length).length cv] 27)) (.cells #[.slice A1 l1.length c1] 28 (0,0))
    simpa using this
   have hKl:=keptAt_le l0 out l0.length
   have hKw:∀ x ∈ keptAt l0 out l0.length,wfS x:=fun x hx=>HW0.out x (keptAt_mem hx)
   have hV0:=Kd.R_move (Kd.R_bound HO.out) (w1:=w3) (fun k hk=>h3at k hk.2.2.1)
   have hV2:=Kd.R_move (Kd.R_move (Kd.R_bound HR1.out) (w1:=wr) (fun k hk=>HB.out.block k hk.2.2.1)) (w1:=w3) (fun k hk=>h3at k (by have:=hk.2.2.1;omega))
   have hM3:IMap w3 w.heap.size N (nowAt out l0.length):=HM.out.same (h3at _ (by omega))
   have hP3:=(h3at (w.heap.size+1) (by omega)).trans HP.out
   have HKW:=Lib.hid hKw
   clear hw3 hKw HM HP
   generalize hkp:keptAt l0 out l0.length=kept at *
   obtain ⟨gS,hS,sS⟩:∃ gS,(0 < kept.length→Av=some ⟨gS,0,none⟩)∧((w.heap.size+2≤gS∧gS < wr.heap.size∧0 < kept.length)∨(kept.length=0∧gS=w3.heap.size+5)):=by
    by_cases hn:0 < kept.length
    ·obtain ⟨g,cells,hA,hbg,hgl,hok,hh,_,_⟩:=R_shape hV0 hn (by show 0 < 5;omega)
     exact ⟨g,fun _=>hA,.inl ⟨hok.2.1,hok.2.2.1,hn⟩⟩
    ·exact ⟨_,fun h=>absurd h hn,.inr ⟨by omega,rfl⟩⟩
   obtain ⟨gR,hR,sR⟩:∃ gR,(0 < l1.length→A1=some ⟨gR,0,none⟩)∧((bV≤gR∧gR < w.heap.size∧0 < l1.length)∨(l1.length=0∧gR=w3.heap.size+6)):=by
    by_cases hn:0 < l1.length
    ·obtain ⟨g,cells,hA,hbg,hgl,hok,hh,_,_⟩:=R_shape hV2 hn (by show 0 < 2;omega)
     exact ⟨g,fun _=>hA,.inl ⟨hok.2.1,hok.2.2.1,hn⟩⟩
    ·exact ⟨_,fun h=>absurd h hn,.inr ⟨by omega,rfl⟩⟩
   have hne:gS≠gR:=by rcases sS with ⟨h1,h2,_⟩ | ⟨_,h1⟩ <;> rcases sR with ⟨h4,h5,_⟩ | ⟨_,h4⟩ <;> omega
   have hlenK:(kept.map S35.f0).length=kept.length:=List.length_map _
   have hop:∀ i,i < (kept.map S35.f0).length→w3.cell? ⟨gS,0+i*5,none⟩=some (.int .i64 ((kept.map S35.f0).getD i 0)):=by
    intro i hi
    rw [hlenK] at hi
    obtain ⟨Ax,cx,he,hl,hC⟩:=Kd.R_reads hV0
    injection he with e1 e2 e3
    subst e1
    rw [hS (by omega)] at hC
    obtain ⟨ad,ead,q0,q1,q2,q3,q4⟩:=at_T35 hC (i:Int) (by omega) (by omega)
    injection ead with ead
    subst ead
    simp only [Int.toNat_natCast,Addr.add_lit] at q0
    rw [q0]
    simp [rdQ,List.getD,hi]
   obtain ⟨okS,hV0,hoS1⟩:∃ okS:Nat→Prop,k35.R 35 w3 (w.heap.size+2) okS (.slice Av kept.length cv) kept∧(∀ k,okS k→w.heap.size+2≤k∧k < wr.heap.size):=⟨_,hV0,fun k hk=>⟨hk.2.1,hk.2.2.1⟩⟩
   obtain ⟨okQ,hV2,hoR1,hoR2⟩:∃ okQ:Nat→Prop,k37.R 37 w3 bV okQ (.slice A1 l1.length c1) l1∧(∀ k,okQ k→bV≤k∧k < w.heap.size)∧∀ k,okQ k→okR k:=⟨_,hV2,fun k hk=>⟨hk.2.1,hk.2.2.1⟩,fun k hk=>hk.1⟩
   have hb0:Below w3.heap.size w3 w3:=Below.refl _ _
   have hI0:PInv (toNow out l0.length) bV w w3 gS gR bV okS okQ (.slice Av kept.length cv) (.slice A1 l1.length c1) kept l1 [] w3:=⟨Nat.le_refl _,hKb0.mono hbV,fun _ _ _ _=>rfl,Kd.R_lower hV0 (by omega),hV2⟩
   have hPHI:∀ p c:Int,wfI c→wfI (toNow out l0.length p c):=fun p c=>toNow_wf (by omega) hlen p c
   have HPHI:=Lib.hid hPHI
   have HM3:=Lib.hid hM3
   have HP3:=Lib.hid hP3
   clear hPHI hM3 hP3
   refine wpIn_rangeFunc_ownG rfl (by omega) (gf:=59) (lb:=#[.pointer (some ⟨wr.heap.size,0,none⟩),.pointer (some ⟨wr.heap.size+1,0,none⟩)]) rfl trivial (enters_of Try.func59 (by kernel_rfl) rfl)
    (places_stops 7 (by omega) wr.heap.size (wr.heap.size+1) gS 0 gR 0 (kept.map S35.f0) cv l1.length c1 Av A1 w3 (by rw [hlenK];exact hS) hR (by rw [hlenK];omega) (by omega) (by omega) (by omega) (by rw [hlenK];intro h;rcases sS with ⟨_,q1,_⟩ | ⟨q1,_⟩ <;> omega)
     (by rw [hlenK];exact (bk_c c1' 0).trans rfl) ((bk_c c2' 0).trans rfl) hop)
    (fun h k=>h.trans k) (fun W l o o' h1 h2 h3 h4=>KpF_put W l o o' h1 h2 h3 h4) hb0 (by intro x;rfl)
    (fun pre W=>PInv (toNow out l0.length) bV w w3 gS gR bV okS okQ (.slice Av kept.length cv) (.slice A1 l1.length c1) kept l1 (pre.map Subtype.val) W) (fun _ _ _=>False)
    (fun s A B row hs hg hr=>hs.move (fun k hk=>by have:=hoS1 k hk;omega) (fun k hk=>by have:=hoR1 k hk;omega) hg (fun r e=>(hr r e).1) (by omega))
    (fun _ _ _ _ _ hs _ _=>hs) hI0 (fun x=>{ tmps:=#[.slice A0 l0.length c0,.slice A1 l1.length c1,.slice A2 l0.length c2,undef,undef,undef,.slice none 0 0,.pointer (some ⟨w.heap.size+1,0,none⟩),.slice Av kept.length cv,u9,u10,undef,.pointer (some x.1.2),undef,undef,.map (some w.heap.size),.slice A0 l0.length c0,.int .i64 l0.length,v1,.slice A0 l0.length c0,.int .i64 l0.length,.int .i64 l0.length,.bool false,u23,u24,u25,u26,u27,u28,u29,u30,u31,u32,u33,u34,u35,u36,u37,u38,u39,.slice Av kept.length cv,.slice A1 l1.length c1,.func (.func 59) #[] #[.pointer (some ⟨wr.heap.size,0,none⟩),.pointer (some ⟨wr.heap.size+1,0,none⟩)],.int .i64 x.1.1,.pointer (some x.1.2),undef,undef,undef,undef,undef,undef,undef,undef,undef,undef,undef,undef,undef,undef],defers:=[] }) ?assign ?body ?done ?stop
   case assign =>
    intro l x W K hK
    simp only [encsP]
    gi_wp2
    exact hK
   case stop =>
    rintro D c pre W _ _ h _
    exact h.elim
   case done =>
    rintro D xs W hD hxs hI hK
    have hst:=hI.same
    have hsz:=hI.size
    have HI:=Lib.hid hI
    have HX:=Lib.hid hxs
    have HK:=Lib.hid hK
    clear hI hK hxs hV0 hV2 hI0 hop hb0 c1' c2'
    go_wp2_with fail
    have hsS:=HI.out.steps
    have hsR:=HI.out.rows
    rw [HX.out] at hsS
    rw [HX.out] at hsR
    rw [fold_steps hne] at hsS
    rw [fold_rows hne] at hsR
    obtain ⟨Ax,cx,he,hl,hC⟩:=Kd.R_reads hsS
    injection he with e1 e2 e3
    subst e1 e3
    have hcall:=api_Ins_42.calls Av cv (kept.map (placed (toNow out l0.length))) _ W hC hl (list_some (by rw [List.length_map];omega))
    rw [List.length_map] at hcall
    refine hcall.mono ?_
    rintro e w5 ⟨v5,rfl,hR5,hB5⟩
    have HC5:=Lib.hid hR5
    have HB5:=Lib.hid hB5
    have HSR:=Lib.hid hsR
    clear hR5 hB5 hsS hsR hC hcall
    dsimp only
    go_wp2_with fail
    have hK5:w5.heap[D]?=some (.deferred (some [])):=(HB5.out.block D (Array.getElem?_eq_some_iff.1 HK.out).1).trans HK.out
    refine ⟨by simp,.inl ⟨_,_,rfl,run_takeDeferred hK5,?_⟩⟩
    have hDw:D < W.heap.size:=(Array.getElem?_eq_some_iff.1 HK.out).1
    have hsame5:∀ k,k < W.heap.size→k≠D→(w5.putObj D (.deferred none)).heap[k]?=W.heap[k]?:=by
     intro k h1 h2
     rw [(grownBy_putObj' _ D _).block k (Nat.lt_of_lt_of_le h1 HB5.out.size) (by intro e;injection e with e;omega),HB5.out.block k h1]
    refine ⟨_,results_tmp rfl _ _ _,?_⟩
    refine ⟨v5,rfl,?_,?_,?_,?_⟩
    ·rw [hkp]
     exact Kd.R_lower (Kd.R_mono (Kd.R_move (Kd.R_bound HC5.out) (fun k hk=>(grownBy_putObj' w5 D _).block k hk.2.2.1 (by intro e;injection e with e;have:=hk.2.1;omega))) (fun _ _=>trivial)) (by omega)
    ·exact Kd.R_mono (Kd.R_move HSR.out (fun k hk=>hsame5 k (by have:=hoR1 k hk;omega) (by have:=hoR1 k hk;omega))) hoR2
    ·have h1:=HI.out.below
     have h2:Below bV W w5:=HB5.out.mono (by omega)
     exact (h1.trans h2).grown (grownBy_putObj' w5 D _) (by have:=h2.size;omega) (fun k e=>by injection e with e;omega)
    ·intro k h1 h2
     rw [hsame5 k (by omega) (by omega),hst k (by omega) (by rcases sS with ⟨q1,q2,_⟩ | ⟨_,q1⟩ <;> omega) (by
      rcases sR with ⟨q1,q2,hn⟩ | ⟨_,q1⟩
      ·intro e
       subst e
       rw [hR hn] at h2
       exact h2 rfl
      ·omega),hKb0.block k h1]
   case body =>
    rintro l pre ⟨⟨op,p⟩,hmem⟩ W hI hlen'
    have hst:=hI.same
    have hsz:=hI.size
    have e3:=(hst (w.heap.size+1) (by omega) (by rcases sS with ⟨q1,q2,_⟩ | ⟨_,q1⟩ <;> omega) (by rcases sR with ⟨q1,q2,_⟩ | ⟨_,q1⟩ <;> omega)).trans HP3.out
    have hMW:IMap W w.heap.size N (nowAt out l0.length):=HM3.out.same (hst w.heap.size (by omega) (by rcases sS with ⟨q1,q2,_⟩ | ⟨_,q1⟩ <;> omega) (by rcases sR with ⟨q1,q2,_⟩ | ⟨_,q1⟩ <;> omega))
    obtain ⟨c,pb,po,hx2,hcell,hfr,hpl,hcw⟩:∃ c pb po,p=⟨pb,po,none⟩∧W.cell? ⟨pb,po,none⟩=some (.int .i64 c)∧W.frozen? ⟨pb,po,none⟩=false∧((∃ i j,(j=1∨j=2)∧pb=gS∧po=i*5+j∧0 < kept.length)∨(pb=gR∧0 < l1.length))∧wfI c:=by
     rcases hI.cell hS hR rfl rfl hlenK hmem with ⟨i,j,hi,h12,hx2,hc,hf⟩ | ⟨i,hi,hx2,hc,hf⟩
     ·dsimp only at hx2 hc hf
      rw [hx2] at hc hf
      exact ⟨_,_,_,hx2,hc,hf,.inl ⟨i,j,h12,rfl,rfl,by omega⟩,wfS_get (foldS_wf HPHI.out gS _ _ HKW.out) i j⟩
     ·dsimp only at hx2 hc hf
      rw [hx2] at hc hf
      exact ⟨_,_,_,hx2,hc,hf,.inr ⟨rfl,by omega⟩,wfR_getD (foldR_wf HPHI.out gR _ _ HW1.out) i⟩
    subst hx2
    have hlook:∀ q,(Instr.lookup 101 (.map (some w.heap.size)) (.int .i64 c) true).run Try.prog (W.drewN q)=.ok (.tuple #[.int .i64 ((nowAt out l0.length c).getD 0),.bool (nowAt out l0.length c).isSome]) (W.drewN q):=fun q=>(hMW.same (W':=W.drewN q) rfl).look c hcw
    have hfin:∀ q,KeepsFrom w3.heap.size W ((W.setCell ⟨pb,po,none⟩ (.int .i64 (toNow out l0.length op c))).drewN q)∧KpF (FixI wr.heap.size (wr.heap.size+1) gS 0 (kept.map S35.f0).length) W ((W.setCell ⟨pb,po,none⟩ (.int .i64 (toNow out l0.length op c))).drewN q) ∧
      PInv (toNow out l0.length) bV w w3 gS gR bV okS okQ (.slice Av kept.length cv) (.slice A1 l1.length c1) kept l1 ((pre ++ [(⟨(op,⟨pb,po,none⟩),hmem⟩:PlaceOf gS 0 (kept.map S35.f0) gR 0 l1.length)]).map Subtype.val) ((W.setCell ⟨pb,po,none⟩ (.int .i64 (toNow out l0.length op c))).drewN q):=by
     intro q
     refine ⟨?_,KpF_of_cells (fun a ha=>?_),?_⟩
     ·exact (keeps_set W _ _ q).from _
     ·rw [World.cell?_drewN]
      refine World.cell?_setCell_other _ _ _ _ ?_
      rcases ha with rfl | rfl | ⟨i,hi,rfl⟩
      ·intro e;injection e with e;rcases hpl with ⟨i',j',h12,e1,e2,hn⟩ | ⟨e1,hn⟩ <;> rcases sS with ⟨q1,q2,_⟩ | ⟨_,q1⟩ <;> rcases sR with ⟨q3,q4,_⟩ | ⟨_,q3⟩ <;> omega
      ·intro e;injection e with e;rcases hpl with ⟨i',j',h12,e1,e2,hn⟩ | ⟨e1,hn⟩ <;> rcases sS with ⟨q1,q2,_⟩ | ⟨_,q1⟩ <;> rcases sR with ⟨q3,q4,_⟩ | ⟨_,q3⟩ <;> omega
      ·rcases hpl with ⟨i',j',h12,e1,e2,hn⟩ | ⟨e1,hn⟩
       ·intro e;injection e with e e';omega
       ·intro e;injection e with e;exact hne (by omega)
     ·rw [List.map_append]
      exact hI.set hS hR rfl rfl hlenK hne (fun k hk e=>by have:=hoS1 k hk;rcases sR with ⟨q1,q2,_⟩ | ⟨_,q1⟩ <;> omega) (fun k hk e=>by have:=hoR1 k hk;rcases sS with ⟨q1,q2,_⟩ | ⟨_,q1⟩ <;> omega) (by rcases sS with ⟨q1,q2,_⟩ | ⟨_,q1⟩ <;> omega) (by rcases sR with ⟨q1,q2,_⟩ | ⟨_,q1⟩ <;> omega) hmem c hcell q
    have FIN:=Lib.hid hfin
    have HM':=Lib.hid hmem
    have k3:=bk_c e3 0
    simp only [List.getElem?_toArray,List.getElem?_cons_zero] at k3
    have hself:=Lib.hid (setCell_self hcell)
    have hmx:Try.prog.follows .mixedOrders=true:=by kernel_rfl
    clear hfin hI hst e3 hMW hlen' hV0 hV2 hI0 hop hb0 c1' c2' h3at hpl
    dsimp only
    cases hnow:nowAt out l0.length c with
    | none =>
     rw [hnow] at hlook
     simp only [Option.getD_none,Option.isSome_none] at hlook
     have HN:toNow out l0.length op c=c:=by unfold toNow;rw [hnow];rfl
     rw [HN,hself.out] at FIN
     clear hnow
     gi_wp2
     refine wpIn_region_quiet_round hmx (by kernel_rfl) (by kernel_rfl) ?_
     repeat (gi_big_quiet_step (fail))
     refine wpQuietIn_nil ?_
     intro _ hw'
     obtain ⟨nq,hw''⟩:=hw'
     subst hw''
     gi_wp2
     exact FIN.out _
    | some v =>
     rw [hnow] at hlook
     simp only [Option.getD_some,Option.isSome_some] at hlook
     have HN:toNow out l0.length op c=v:=by unfold toNow;rw [hnow];rfl
     rw [HN] at FIN
     clear hnow
     gi_wp2
     refine wpIn_region_quiet_round hmx (by kernel_rfl) (by kernel_rfl) ?_
     repeat (gi_big_quiet_step (fail))
     refine wpQuietIn_nil ?_
     intro _ hw'
     obtain ⟨nq,hw''⟩:=hw'
     subst hw''
     gi_wp2
     exact FIN.out _
theorem flip_step {r:List Bool} {k:Nat} (hk:k < r.length):((r.take k).map (!·) ++ r.drop k).set k (!r[k])=(r.take (k+1)).map (!·) ++ r.drop (k+1):=by
 have hlen:((r.take k).map (!·)).length=k:=by simp;omega
 rw [List.set_append_right _ _ (by omega),hlen,Nat.sub_self,List.drop_eq_getElem_cons hk,List.take_succ_eq_append_getElem hk,List.map_append,List.append_assoc]
 rfl
theorem flip_get {r:List Bool} {k:Nat} (hk:k < r.length):rdOf false ((r.take k).map (!·) ++ r.drop k) (k:Int)=r[k]:=by
 have hlen:((r.take k).map (!·)).length=k:=by simp;omega
 simp only [rdOf,Int.toNat_natCast]
 rw [List.getD_eq_getElem?_getD,List.getElem?_append_right (by omega),hlen,Nat.sub_self,List.getElem?_drop]
 simp [hk]
set_option maxRecDepth 100000 in
set_option maxHeartbeats 2000000 in
theorem trim_calls (A0:Option Addr) (c0:Nat) (l0:List S35) (A1:Option Addr) (c1:Nat) (l1:List S37) (kr:Nat) (r:List Bool) (w:World) (bV:Nat) (okR:Nat→Prop)
  (hr0:Kd.C k35 w A0 l0.length l0) (hc0:l0.length≤c0) (hr1:Kd.R k37 37 w bV okR (.slice A1 l1.length c1) l1)
  (h:opt_reached.f kr l0 l1=some r) (hlen:r.length=l0.length) (hs0:l0.length < 3518437208883) (hs1:l1.length≤140737488355328) (hbV:bV≤w.heap.size) (hw0:∀ x ∈ l0,wfS x) (hw1:∀ x ∈ l1,wfI x.f1) :
  Calls Try.prog 45 #[.slice A0 l0.length c0,.slice A1 l1.length c1] w fun e w'=>∃ v:Value,e=.returned v∧Kd.R k35 35 w' w.heap.size (fun _=>True) v ((keptAt l0 (r.map (!·)) l0.length).map (placed (toNow (r.map (!·)) l0.length)))∧Kd.R k37 37 w' bV okR (.slice A1 l1.length c1) (l1.map (placedR (toNow (r.map (!·)) l0.length)))∧Below bV w w'∧(∀ k,k < w.heap.size→some k≠(Value.slice A1 l1.length c1).ownBlock→w'.heap[k]?=w.heap[k]?):=by
 have HR0:=Lib.hid hr0
 have HR1:=Lib.hid hr1
 have HW0:=Lib.hid hw0
 have HW1:=Lib.hid hw1
 have HF:=Lib.hid h
 clear hr0 hr1 hw0 hw1 h
 go_enter Try.func45,Try.ntmps45
 go_wp2_with fail
 obtain ⟨Ax,cx,he,hcl,hC1⟩:=Kd.R_reads HR1.out
 injection he with e1 e2 e3
 subst e1 e3
 refine (opt_reached.calls kr A0 c0 l0 A1 c1 l1 r w HR0.out hc0 hC1 hcl HF.out).mono ?_
 rintro e w1 ⟨v1,rfl,hO,hB⟩
 obtain ⟨Am,cm,rfl⟩:=Kd.R_slice hO
 have HO:=Lib.hid hO
 have HB:=Lib.hid hB
 clear hO hB hC1
 dsimp only
 go_wp2_with fail
 go_loopw [12] (fun s12 wl=>∃ k:Nat,k≤r.length∧s12=.int .i64 k∧Hid (Below w.heap.size w wl)∧Hid (Kd.R Kd.bool 4 wl w.heap.size (fun _=>True) (.slice Am r.length cm) ((r.take k).map (!·) ++ r.drop k))) (fun s12 _=>r.length - (intOf s12).toNat)
 case atStart=>exact ⟨0,Nat.zero_le _,rfl,HB,by simpa using HO⟩
 case round =>
  obtain ⟨k,hk,rfl,HB,HO⟩:=hrel
  by_cases hlt:k < r.length
  ·have hltz:(k:Int) < (r.length:Int):=by omega
   obtain ⟨g,cells,hA,hbg,hgl,hok,hh,_,_⟩:=R_shape HO.out (by omega) (by show 0 < 1;omega)
   subst hA
   obtain ⟨hn,hcm,hC⟩:=Kd.R_reads' HO.out
   obtain ⟨ad,eA,qb⟩:=Kd.at_bool hC (k:Int) (by omega) (by omega)
   injection eA with eA
   subst eA
   rw [flip_get hlt] at qb
   simp only [Int.toNat_natCast,Addr.add_lit,Nat.zero_add] at qb
   have hfr:=bk_f hh k
   have hput:=Kd.R_putg HO.out (k:Int) (!r[k])
   simp only [Int.toNat_natCast] at hput
   rw [flip_step hlt] at hput
   have HPUT:=Lib.hid hput
   have HBG:=Lib.hid hbg
   clear hh hC hput hok hn hbg
   go_wp2_with fail
   refine ⟨⟨k+1,by omega,by go_num,?_,?_⟩,by simp [intOf];omega⟩
   ·exact HB.out.setCell (p:=⟨g,k,none⟩) HBG.out _
   ·exact HPUT.out.1
  ·have hkn:k=r.length:=by omega
   subst hkn
   have hO:=HO.out
   rw [List.take_length,List.drop_length,List.append_nil] at hO
   obtain ⟨hn,hcm,hC⟩:=Kd.R_reads' hO
   rw [List.length_map] at hC
   have HO2:=Lib.hid hO
   have HC:=Lib.hid hC
   clear hO hC
   have hlm:(r.map (!·)).length=r.length:=List.length_map _
   go_wp2_with fail
   have hcall:=without_calls A0 c0 l0 A1 c1 l1 Am cm (r.map (!·)) wr bV okR (Kd.C_below HR0.out HB.out) hc0 (Kd.R_mono (Kd.R_move (Kd.R_bound HR1.out) (fun k hk=>HB.out.block k hk.2.2.1)) (fun k hk=>hk.1)) (by rw [hlm];exact HC.out) (by rw [hlm];exact hcm) (by rw [hlm];exact hlen) hs0 hs1 (by have:=HB.out.size;omega) HW0.out HW1.out
   rw [hlm,hlen] at hcall
   rw [hlen]
   refine hcall.mono ?_
   rintro e w5 ⟨v5,rfl,h1,h2,h3,h4⟩
   have H1:=Lib.hid h1
   have H2:=Lib.hid h2
   have H3:=Lib.hid h3
   have H4:=Lib.hid h4
   clear hcall h1 h2 h3 h4
   dsimp only
   go_wp2_with fail
   go_ret
   refine ⟨_,rfl,?_,H2.out,(HB.out.mono hbV).trans H3.out,fun k a b=>(H4.out k (Nat.lt_of_lt_of_le a HB.out.size) b).trans (HB.out.block k a)⟩
   exact Kd.R_lower H1.out HB.out.size
structure MInv (l0:List S35) (l1:List S37) (w w3:World) (gS gT bT:Nat) (vT:Value) (pre:List (Int × Addr)) (W:World):Prop where
 size:w3.heap.size≤W.heap.size
 below:Below w.heap.size w W
 same:∀ k,k < w3.heap.size→k≠gT→W.heap[k]?=w3.heap[k]?
 row:Kd.bool.R 4 W bT (fun k=>k < w3.heap.size) vT (pre.foldl (fun T x=>mark l0.length T (valOf l0 l1 gS x)) (List.replicate l0.length false))
theorem MInv.move {l0:List S35} {l1:List S37} {w w3:World} {gS gT bT:Nat} {vT:Value} {pre:List (Int × Addr)} {W:World} (h:MInv l0 l1 w w3 gS gT bT vT pre W) {W':World} {row:Option Nat} (hg:W.grownBy W' row) (hr:∀ r,row=some r→w3.heap.size≤r) (hw:w.heap.size≤w3.heap.size) :
  MInv l0 l1 w w3 gS gT bT vT pre W':=by
 have hm:∀ k,k < w3.heap.size→W'.heap[k]?=W.heap[k]?:=fun k hk=>hg.block k (Nat.lt_of_lt_of_le hk h.size) (fun e=>by have:=hr k e.symm;omega)
 exact ⟨Nat.le_trans h.size hg.size,h.below.grown hg h.below.size (fun k e=>by have:=hr k e;omega),fun k hk h1=>(hm k hk).trans (h.same k hk h1),Kd.R_move h.row (fun k hk=>hm k hk)⟩
theorem mfold_len (n:Nat) (v:Int × Addr→Int) (pre:List (Int × Addr)):∀ T:List Bool,(pre.foldl (fun T x=>mark n T (v x)) T).length=T.length:=by
 induction pre with
 | nil=>intro T;rfl
 | cons x pre ih=>intro T;rw [List.foldl_cons,ih,mark_len]
theorem ones5 (z:S35):∀ q ∈ ([.int .i64 z.f0,.int .i64 z.f1,.int .i64 z.f2,.int .i64 z.f3,.int .i64 z.f4]:List Value),q.oneCell'=true:=by
 intro q hq
 simp only [List.mem_cons,List.not_mem_nil,or_false] at hq
 rcases hq with rfl | rfl | rfl | rfl | rfl <;> rfl
theorem ones1:∀ q ∈ ([.bool true]:List Value),q.oneCell'=true:=by
 intro q hq
 simp only [List.mem_cons,List.not_mem_nil,or_false] at hq
 subst hq
 rfl
theorem bthen {w W W':World} (h:Below w.heap.size w W) (k:Below W.heap.size W W'):Below w.heap.size w W':=h.trans (k.mono h.size)
theorem bkeep {W W':World} {p:Addr} {v:Value} (hb:Below W.heap.size W W') (h:W.cell? p=some v):W'.cell? p=some v:=(hb.cell (World.block_lt_of_cell? _ _ h)).trans h
set_option maxRecDepth 100000 in
set_option maxHeartbeats 2000000 in
theorem fuse_calls (A0:Option Addr) (c0:Nat) (l0:List S35) (A1:Option Addr) (c1:Nat) (l1:List S37) (w:World) (bV:Nat) (okS okR:Nat→Prop)
  (hr0:Kd.R k35 35 w bV okS (.slice A0 l0.length c0) l0) (hr1:Kd.R k37 37 w bV okR (.slice A1 l1.length c1) l1)
  (hs0:l0.length < 3518437208883) (hs1:l1.length≤140737488355328) (hbV:bV≤w.heap.size) (hw0:∀ x ∈ l0,wfS x) (hw1:∀ x ∈ l1,wfI x.f1) :
  Calls Try.prog 38 #[.slice A0 l0.length c0,.slice A1 l1.length c1] w fun e w'=>∃ v:Value,e=.returned v∧Kd.R k35 35 w' w.heap.size (fun _=>True) v (fuseP l0 l1).1∧Kd.R k37 37 w' bV okR (.slice A1 l1.length c1) (fuseP l0 l1).2∧Below bV w w'∧(∀ k,k < w.heap.size→some k≠(Value.slice A0 l0.length c0).ownBlock→some k≠(Value.slice A1 l1.length c1).ownBlock→w'.heap[k]?=w.heap[k]?):=by
 refine (callsIn_wide (n:=8)).1 ?_
 refine callsIn_of_wp_marks Try.func38 rfl trivial ?_ rfl
 simp only [Try.ntmps38,List.size_toArray,List.length_cons,List.length_nil,Nat.reduceAdd,Nat.reduceSub,Array.replicate_succ,Array.replicate_zero,List.push_toArray,List.append_toArray,List.nil_append,List.cons_append]
 rw [wpIn_wide]
 have HR0:=Lib.hid hr0
 have HR1:=Lib.hid hr1
 have HW0:=Lib.hid hw0
 have HW1:=Lib.hid hw1
 clear hr0 hr1 hw0 hw1
 go_wp2_with (first | ((with_reducible refine gate_dst (N:=14) rfl ?_);go_loud (refine Kd.R_make Kd.bool _ 4 rfl (N:=14) rfl 55 _ _ rfl (l0.length:Int) rfl rfl Try.underlying55 (.bool false) 1 info4 rfl (by decide) (by omega) false (ok:=fun _=>True) (okp:=fun _=>True) rfl (fun _ hk=>hk) trivial (by omega) (by simp;omega) (Below.refl _ _) (Nat.le_refl _) ?_);go_loud (intro v1 w1 ho1 hb1 hg1 hnew1;obtain ⟨At,ct,ev1⟩:=Kd.R_slice ho1;rw [List.length_replicate,Int.toNat_natCast] at ev1;subst ev1;rw [Int.toNat_natCast] at ho1;have HO1:=Lib.hid ho1;have HB1:=Lib.hid hb1;have hz1:=hb1.size;simp only [World.size_alloc] at hz1;have kx:=(bk_c (blk_below (blk_new w (.cells #[.slice A0 l0.length c0] 27 (0,0))) hb1) 0);simp only [List.getElem?_toArray,List.getElem?_cons_zero] at kx;have hzx:w.heap.size < w1.heap.size:=(by omega);clear ho1 hb1 hg1 hnew1)))
 obtain ⟨Ax,cx,he,hcl,hC1⟩:=Kd.R_reads HR1.out
 injection he with e1 e2 e3
 subst e1 e3
 obtain ⟨Ay,cy,he,hcl0,hC0⟩:=Kd.R_reads HR0.out
 injection he with e1 e2 e3
 subst e1 e3
 refine (places_calls _ _ A0 A1 l0.length c0 l1.length c1 _ rfl rfl).mono ?_
 rintro e w3 ⟨rfl,hw3⟩
 dsimp only
 go_wp2_with fail
 rw [← wpIn_wide (n:=8)]
 have zz3:w3.heap.size=w1.heap.size+3:=by rw [← hw3];simp
 have h3at:∀ k,k < w1.heap.size→w3.heap[k]?=w1.heap[k]?:=fun k h1=>by
  rw [← hw3,Below.heap_alloc _ _ _ (by simp;omega),Below.heap_alloc _ _ _ (by simp;omega),Below.heap_alloc _ _ _ h1]
 have h1at:∀ k,k < w.heap.size→w1.heap[k]?=w.heap[k]?:=fun k h1=>(HB1.out.block k (by simp;omega)).trans (Below.heap_alloc _ _ _ h1)
 have hBw1:Below w.heap.size w w1:=((Below.refl _ _).alloc (Nat.le_refl _) _).trans (HB1.out.mono (by simp))
 have hKb0:Below w.heap.size w w3:=by rw [← hw3];exact ((hBw1.alloc (by omega) _).alloc (by simp;omega) _).alloc (by simp;omega) _
 have b0':w3.heap[w.heap.size]?=some (.cells #[.slice A0 l0.length c0] 27 (0,0)):=(h3at _ hzx).trans (blk_below (blk_new _ _) HB1.out)
 have b5':w3.heap[w1.heap.size]?=some (.cells #[.slice At l0.length ct] 55 (0,0)):=by
  rw [← hw3];exact bk_a (bk_a (blk_new w1 _) _) _
 have c1':w3.heap[w1.heap.size+1]?=some (.cells #[.slice A0 l0.length c0] 27 (0,0)):=by
  rw [← hw3]
  have:=bk_a (blk_new (w1.alloc (.cells #[.slice At l0.length ct] 55)) (.cells #[.slice A0 l0.length c0] 27)) (.cells #[.slice A1 l1.length c1] 28)
  simpa using this
 have c2':w3.heap[w1.heap.size+1+1]?=some (.cells #[.slice A1 l1.length c1] 28 (0,0)):=by
  rw [← hw3]
  have:=blk_new ((w1.alloc (.cells #[.slice At l0.length ct] 55)).alloc (.cells #[.slice A0 l0.length c0] 27)) (.cells #[.slice A1 l1.length c1] 28)
  simpa using this
 have hVT:=Kd.R_move (Kd.R_bound HO1.out) (w1:=w3) (fun k hk=>h3at k hk.2.2.1)
 have hV0:=Kd.R_move (Kd.R_bound HR0.out) (w1:=w3) (fun k hk=>(h3at k (by have:=hk.2.2.1;omega)).trans (h1at k hk.2.2.1))
 have hV2:=Kd.R_move (Kd.R_bound HR1.out) (w1:=w3) (fun k hk=>(h3at k (by have:=hk.2.2.1;omega)).trans (h1at k hk.2.2.1))
 simp only [World.size_alloc] at hVT
 clear hw3 h3at
 obtain ⟨gT,hT,sT⟩:∃ gT,(0 < l0.length→At=some ⟨gT,0,none⟩)∧((w.heap.size+1≤gT∧gT < w1.heap.size∧0 < l0.length)∨(l0.length=0∧gT=w3.heap.size+7)):=by
  by_cases hn:0 < l0.length
  ·obtain ⟨g,cells,hA,hbg,hgl,hok,hh,_,_⟩:=R_shape hVT hn (by show 0 < 1;omega)
   exact ⟨g,fun _=>hA,.inl ⟨hok.2.1,hok.2.2.1,hn⟩⟩
  ·exact ⟨_,fun h=>absurd h hn,.inr ⟨by omega,rfl⟩⟩
 obtain ⟨gS,hS,sS⟩:∃ gS,(0 < l0.length→A0=some ⟨gS,0,none⟩)∧((bV≤gS∧gS < w.heap.size∧0 < l0.length∧∃ cells,w3.heap[gS]?=some (.cells cells 35 (0,0)))∨(l0.length=0∧gS=w3.heap.size+5)):=by
  by_cases hn:0 < l0.length
  ·obtain ⟨g,cells,hA,hbg,hgl,hok,hh,_,_⟩:=R_shape hV0 hn (by show 0 < 5;omega)
   exact ⟨g,fun _=>hA,.inl ⟨hok.2.1,hok.2.2.1,hn,cells,hh⟩⟩
  ·exact ⟨_,fun h=>absurd h hn,.inr ⟨by omega,rfl⟩⟩
 obtain ⟨gR,hR,sR⟩:∃ gR,(0 < l1.length→A1=some ⟨gR,0,none⟩)∧((bV≤gR∧gR < w.heap.size∧0 < l1.length∧∃ cells,w3.heap[gR]?=some (.cells cells 37 (0,0)))∨(l1.length=0∧gR=w3.heap.size+6)):=by
  by_cases hn:0 < l1.length
  ·obtain ⟨g,cells,hA,hbg,hgl,hok,hh,_,_⟩:=R_shape hV2 hn (by show 0 < 2;omega)
   exact ⟨g,fun _=>hA,.inl ⟨hok.2.1,hok.2.2.1,hn,cells,hh⟩⟩
  ·exact ⟨_,fun h=>absurd h hn,.inr ⟨by omega,rfl⟩⟩
 have hne:gS≠gR:=by
  rintro rfl
  rcases sS with ⟨h1,h2,_,cs,h3⟩ | ⟨_,h1⟩ <;> rcases sR with ⟨h4,h5,_,cs',h6⟩ | ⟨_,h4⟩
  ·rw [h3] at h6;injection h6 with h6;injection h6 with _ h6;exact absurd h6 (by decide)
  ·omega
  ·omega
  ·omega
 have nT1:gT≠w.heap.size∧gT≠w1.heap.size∧gT≠w1.heap.size+1∧gT≠w1.heap.size+1+1:=by rcases sT with ⟨h1,h2,_⟩ | ⟨_,h1⟩ <;> omega
 have nTS:gT≠gS:=by rcases sT with ⟨h1,h2,_⟩ | ⟨_,h1⟩ <;> rcases sS with ⟨h4,h5,_⟩ | ⟨_,h4⟩ <;> omega
 have nTR:gT≠gR:=by rcases sT with ⟨h1,h2,_⟩ | ⟨_,h1⟩ <;> rcases sR with ⟨h4,h5,_⟩ | ⟨_,h4⟩ <;> omega
 have hlenK:(l0.map S35.f0).length=l0.length:=List.length_map _
 have hcel:∀ i j,i < l0.length→j < 5→(j=0→w3.cell? ⟨gS,i*5+j,none⟩=some (.int .i64 (l0.getD i z35).f0))∧(j=1∨j=2→w3.cell? ⟨gS,i*5+j,none⟩=some (.int .i64 (getF (l0.getD i z35) j))):=by
  intro i j hi hj
  obtain ⟨Ax,cx,he,hl,hC⟩:=Kd.R_reads hV0
  injection he with e1 e2 e3
  subst e1
  rw [hS (by omega)] at hC
  obtain ⟨ad,ead,q0,q1,q2,q3,q4⟩:=at_T35 hC (i:Int) (by omega) (by omega)
  injection ead with ead
  subst ead
  simp only [Int.toNat_natCast,Addr.add_lit,Nat.zero_add] at q0 q1 q2
  have er:rdQ l0 (i:Int)=l0.getD i z35:=by simp [rdQ]
  rw [er] at q0 q1 q2
  refine ⟨fun e=>by subst e;exact q0,fun e=>?_⟩
  rcases e with rfl | rfl
  ·exact q1
  ·exact q2
 have hcelR:∀ i,i < l1.length→w3.cell? ⟨gR,i*2+1,none⟩=some (.int .i64 (l1.getD i z37).f1):=by
  intro i hi
  obtain ⟨Ax,cx,he,hl,hC⟩:=Kd.R_reads hV2
  injection he with e1 e2 e3
  subst e1
  rw [hR (by omega)] at hC
  obtain ⟨ad,ead,q0,q1⟩:=at_T37 hC (i:Int) (by omega) (by omega)
  injection ead with ead
  subst ead
  simp only [Int.toNat_natCast,Addr.add_lit,Nat.zero_add] at q1
  have er:rdR l1 (i:Int)=l1.getD i z37:=by simp [rdR]
  rw [er] at q1
  exact q1
 have hop:∀ i,i < (l0.map S35.f0).length→w3.cell? ⟨gS,0+i*5,none⟩=some (.int .i64 ((l0.map S35.f0).getD i 0)):=by
  intro i hi
  rw [hlenK] at hi
  have h1:=(hcel i 0 hi (by omega)).1 rfl
  rw [Nat.zero_add]
  have:(l0.map S35.f0).getD i 0=(l0.getD i z35).f0:=by simp [List.getD,hi]
  rw [this];exact h1
 have hb0:Below w3.heap.size w3 w3:=Below.refl _ _
 have hI0:MInv l0 l1 w w3 gS gT (w.heap.size+1) (.slice At l0.length ct) [] w3:=⟨Nat.le_refl _,hKb0,fun _ _ _=>rfl,Kd.R_mono hVT (fun k hk=>by have:=hk.2.2.1;omega)⟩
 have hmx:Try.prog.follows .mixedOrders=true:=by kernel_rfl
 refine wpIn_rangeFunc_ownG rfl (by omega) (gf:=59) (lb:=#[.pointer (some ⟨w1.heap.size+1,0,none⟩),.pointer (some ⟨w1.heap.size+1+1,0,none⟩)]) rfl trivial (enters_of Try.func59 (by kernel_rfl) rfl)
  (places_stops 7 (by omega) (w1.heap.size+1) (w1.heap.size+1+1) gS 0 gR 0 (l0.map S35.f0) c0 l1.length c1 A0 A1 w3 (by rw [hlenK];exact hS) hR (by rw [hlenK];omega) (by omega) (by omega) (by omega) (by rw [hlenK];intro h;rcases sS with ⟨_,q1,_⟩ | ⟨q1,_⟩ <;> omega)
   (by rw [hlenK];exact (bk_c c1' 0).trans rfl) ((bk_c c2' 0).trans rfl) hop)
  (fun h k=>h.trans k) (fun W l o o' h1 h2 h3 h4=>KpF_put W l o o' h1 h2 h3 h4) hb0 (by intro x;rfl)
  (fun pre W=>MInv l0 l1 w w3 gS gT (w.heap.size+1) (.slice At l0.length ct) (pre.map Subtype.val) W) (fun _ _ _=>False)
  (fun s A B row hs hg hr=>hs.move hg (fun r e=>(hr r e).1) (by omega))
  (fun _ _ _ _ _ hs _ _=>hs) hI0 (fun x=>{ tmps:=#[.slice A0 l0.length c0,.slice A1 l1.length c1,.pointer (some ⟨w.heap.size,0,none⟩),undef,.slice none 0 0,.pointer (some ⟨w1.heap.size,0,none⟩),undef,.pointer (some x.1.2),undef,undef,undef,undef,.slice A0 l0.length c0,.int .i64 l0.length,.slice At l0.length ct,.slice A0 l0.length c0,.slice A1 l1.length c1,.func (.func 59) #[] #[.pointer (some ⟨w1.heap.size+1,0,none⟩),.pointer (some ⟨w1.heap.size+1+1,0,none⟩)],.int .i64 x.1.1,.pointer (some x.1.2),undef,undef,undef,undef,undef,undef,undef,undef,undef,undef,undef,undef,undef,undef,undef,undef,undef,undef,undef,undef,undef,undef,undef,undef,undef,undef,undef,undef,undef,undef,undef,undef,undef,undef,undef,undef,undef,undef,undef,undef,undef,undef,undef,undef,undef,undef,undef,undef,undef,undef,undef,undef,undef,undef,undef,undef,undef,undef,undef,undef,undef,undef,undef],defers:=[] }) ?assign ?body ?done ?stop
 case assign =>
  intro l x W K hK
  simp only [encsP]
  gi_wp2
  exact hK
 case stop =>
  rintro D c pre W _ _ h _
  exact h.elim
 case body =>
  rintro l pre ⟨⟨op,p⟩,hmem⟩ W hI hlen'
  have hst:=hI.same
  have hsz:=hI.size
  have e0:=(hst w.heap.size (by omega) (by omega)).trans b0'
  have e5:=(hst w1.heap.size (by omega) (by omega)).trans b5'
  obtain ⟨c,pb,po,hx2,hcell,hfr,hval,hpl⟩:∃ c pb po,p=⟨pb,po,none⟩∧W.cell? ⟨pb,po,none⟩=some (.int .i64 c)∧W.frozen? ⟨pb,po,none⟩=false∧valOf l0 l1 gS (op,p)=c∧gT≠pb:=by
   rcases List.mem_append.1 hmem with hx | hx
   ·obtain ⟨i,j,hi,hj,hxe⟩:=mem_stepPlaces.1 hx
    rw [hlenK] at hi
    have h12:=namedOff_12 hj
    have e1:(i*5+j) / 5=i:=by omega
    have e2:(i*5+j) % 5=j:=by omega
    injection hxe with hx1 hx2
    rw [Nat.zero_add] at hx2
    obtain ⟨cs,hcs⟩:∃ cs,w3.heap[gS]?=some (.cells cs 35 (0,0)):=by rcases sS with ⟨_,_,_,cs,h⟩ | ⟨q,_⟩ <;> first | exact ⟨cs,h⟩ | omega
    have hW:=(hst gS (by have:=blk_lt hcs;omega) (Ne.symm nTS)).trans hcs
    refine ⟨_,gS,i*5+j,hx2,?_,bk_f hW _,rfl,nTS⟩
    rw [hx2]
    show W.cell? _=some (.int .i64 (valOf l0 l1 gS (op,⟨gS,i*5+j,none⟩)))
    have:valOf l0 l1 gS (op,⟨gS,i*5+j,none⟩)=getF (l0.getD i z35) j:=by simp [valOf,e1,e2]
    rw [this,← (hcel i j hi (by omega)).2 h12,bk_c hW,bk_c hcs]
   ·obtain ⟨i,hi,hxe⟩:=mem_rowPlaces.1 hx
    have e1:(i*2+1) / 2=i:=by omega
    injection hxe with hx1 hx2
    rw [Nat.zero_add] at hx2
    obtain ⟨cs,hcs⟩:∃ cs,w3.heap[gR]?=some (.cells cs 37 (0,0)):=by rcases sR with ⟨_,_,_,cs,h⟩ | ⟨q,_⟩ <;> first | exact ⟨cs,h⟩ | omega
    have hW:=(hst gR (by have:=blk_lt hcs;omega) (Ne.symm nTR)).trans hcs
    refine ⟨_,gR,i*2+1,hx2,?_,bk_f hW _,rfl,nTR⟩
    rw [hx2]
    show W.cell? _=some (.int .i64 (valOf l0 l1 gS (op,⟨gR,i*2+1,none⟩)))
    have:valOf l0 l1 gS (op,⟨gR,i*2+1,none⟩)=(l1.getD i z37).f1:=by simp [valOf,e1,Ne.symm hne]
    rw [this,← hcelR i hi,bk_c hW,bk_c hcs]
  have hstep:((pre ++ [(⟨(op,p),hmem⟩:PlaceOf gS 0 (l0.map S35.f0) gR 0 l1.length)]).map Subtype.val).foldl (fun T x=>mark l0.length T (valOf l0 l1 gS x)) (List.replicate l0.length false)=mark l0.length ((pre.map Subtype.val).foldl (fun T x=>mark l0.length T (valOf l0 l1 gS x)) (List.replicate l0.length false)) c:=by
   rw [List.map_append,List.foldl_append]
   simp only [List.map_cons,List.map_nil,List.foldl_cons,List.foldl_nil,hval]
  subst hx2
  obtain ⟨T,hT0⟩:∃ T,(pre.map Subtype.val).foldl (fun T x=>mark l0.length T (valOf l0 l1 gS x)) (List.replicate l0.length false)=T:=⟨_,rfl⟩
  have hTlen:T.length=l0.length:=by rw [← hT0,mfold_len];simp
  have hrow:=hI.row
  rw [hT0] at hrow hstep
  have hfinA:∀ q,mark l0.length T c=T→KeepsFrom w3.heap.size W (W.drewN q)∧KpF (FixI (w1.heap.size+1) (w1.heap.size+1+1) gS 0 (l0.map S35.f0).length) W (W.drewN q) ∧
    MInv l0 l1 w w3 gS gT (w.heap.size+1) (.slice At l0.length ct) ((pre ++ [(⟨(op,⟨pb,po,none⟩),hmem⟩:PlaceOf gS 0 (l0.map S35.f0) gR 0 l1.length)]).map Subtype.val) (W.drewN q):=by
   intro q hm
   refine ⟨(⟨Nat.le_refl _,fun _ _ h _=>h⟩:KeepsOthers W (W.drewN q)).from _,KpF_of_cells (fun a ha=>World.cell?_drewN _ _ _),⟨hI.size,pwbd hI.below q,hI.same,?_⟩⟩
   rw [hstep,hm]
   exact Kd.R_drewN hrow q
  have hfinB:∀ q,0≤c→c < l0.length→KeepsFrom w3.heap.size W ((W.setCell ⟨gT,c.toNat,none⟩ (.bool true)).drewN q)∧KpF (FixI (w1.heap.size+1) (w1.heap.size+1+1) gS 0 (l0.map S35.f0).length) W ((W.setCell ⟨gT,c.toNat,none⟩ (.bool true)).drewN q) ∧
    MInv l0 l1 w w3 gS gT (w.heap.size+1) (.slice At l0.length ct) ((pre ++ [(⟨(op,⟨pb,po,none⟩),hmem⟩:PlaceOf gS 0 (l0.map S35.f0) gR 0 l1.length)]).map Subtype.val) ((W.setCell ⟨gT,c.toNat,none⟩ (.bool true)).drewN q):=by
   intro q g0 g1
   refine ⟨(keeps_set W _ _ q).from _,KpF_of_cells (fun a ha=>?_),⟨?_,?_,fun k hk h1=>?_,?_⟩⟩
   ·rw [World.cell?_drewN]
    refine World.cell?_setCell_other _ _ _ _ ?_
    rcases ha with rfl | rfl | ⟨i,hi,rfl⟩
    ·intro e;injection e with e;omega
    ·intro e;injection e with e;omega
    ·intro e;injection e with e;omega
   ·show w3.heap.size≤(W.setCell _ _).heap.size
    simp [World.setCell];exact hI.size
   ·exact pwbd (hI.below.setCell (p:=⟨gT,c.toNat,none⟩) (by show w.heap.size≤gT;rcases sT with ⟨q1,q2,_⟩ | ⟨_,q1⟩ <;> omega) _) q
   ·show (W.setCell _ _).heap[k]?=_
    rw [Below.heap_setCell _ _ _ _ h1];exact hI.same k hk h1
   ·rw [hstep]
    have hm:mark l0.length T c=T.set c.toNat true:=by unfold mark;rw [if_pos ⟨g0,g1⟩]
    rw [hm]
    rw [hT (by omega)] at hrow ⊢
    exact Kd.R_drewN (Kd.R_putn hrow c true) q
  have hTc:0≤c→c < l0.length→W.cell? ⟨gT,c.toNat,none⟩=some (.bool (rdOf false T c))∧W.frozen? ⟨gT,c.toNat,none⟩=false:=by
   intro g0 g1
   obtain ⟨g,cells,hA,_,_,hok,hh,_,_⟩:=R_shape hrow (by omega) (by show 0 < 1;omega)
   rw [hT (by omega)] at hA
   injection hA with hA
   injection hA with hA
   subst hA
   obtain ⟨hn,hcm,hC⟩:=Kd.R_reads' hrow
   rw [hT (by omega)] at hC
   obtain ⟨ad,eA,qb⟩:=Kd.at_bool hC c (by omega) (by omega)
   injection eA with eA
   subst eA
   rw [Addr.add_lit,Nat.zero_add] at qb
   exact ⟨qb,bk_f hh _⟩
  have FINA:=Lib.hid hfinA
  have FINB:=Lib.hid hfinB
  have HTC:=Lib.hid hTc
  have k0:=bk_c e0 0
  have k5:=bk_c e5 0
  simp only [List.getElem?_toArray,List.getElem?_cons_zero] at k0 k5
  clear hfinA hfinB hTc hrow hstep hI hst e0 e5 hV0 hV2 hVT hI0 hop hb0 c1' c2' b0' b5' h1at hcel hcelR hlen' hcl hcl0 hC0 hC1 kx
  dsimp only
  by_cases g0:0≤c
  ·have t0:decide (0≤c)=true:=decide_eq_true g0
   by_cases g1:c < (l0.length:Int)
   ·have t1:decide (c < (l0.length:Int))=true:=decide_eq_true g1
    obtain ⟨kT,fT⟩:=HTC.out g0 g1
    have hAt:=hT (by omega)
    subst hAt
    gi_wp2
    refine wpIn_region_quiet_round hmx (by kernel_rfl) (by kernel_rfl) ?_
    repeat (gi_big_quiet_step (fail))
    refine wpQuietIn_nil ?_
    intro _ hw'
    obtain ⟨nq,hw''⟩:=hw'
    subst hw''
    gi_wp2
    gi_region_with_o (fail)
    all_goals gi_wp2
    all_goals exact FINB.out (nq+1) g0 g1
   ·have t1:decide (c < (l0.length:Int))=false:=decide_eq_false g1
    have G1:=Lib.hid g1
    clear g1
    gi_wp2
    refine wpIn_region_quiet_round hmx (by kernel_rfl) (by kernel_rfl) ?_
    repeat (gi_big_quiet_step (fail))
    refine wpQuietIn_nil ?_
    intro _ hw'
    obtain ⟨nq,hw''⟩:=hw'
    subst hw''
    gi_wp2
    exact FINA.out _ (by unfold mark;rw [if_neg (by have:=G1.out;omega)])
  ·have t0:decide (0≤c)=false:=decide_eq_false g0
   have G0:=Lib.hid g0
   clear g0
   gi_wp2
   refine wpIn_region_quiet_round hmx (by kernel_rfl) (by kernel_rfl) ?_
   repeat (gi_big_quiet_step (fail))
   refine wpQuietIn_nil ?_
   intro _ hw'
   obtain ⟨nq,hw''⟩:=hw'
   subst hw''
   gi_wp2
   exact FINA.out _ (by unfold mark;rw [if_neg (by have:=G0.out;omega)])
 case done =>
  rintro D xs W hD hxs hI hK
  have hst:=hI.same
  have hsz:=hI.size
  have hrow:=hI.row
  rw [hxs,targets_fold hne] at hrow
  have e0:=(hst w.heap.size (by omega) (by omega)).trans b0'
  have e5:=(hst w1.heap.size (by omega) (by omega)).trans b5'
  have hS0:Kd.R k35 35 W bV (fun k=>okS k∧k < w.heap.size) (.slice A0 l0.length c0) l0:=Kd.R_mono (Kd.R_move (Kd.R_bound HR0.out) (fun k hk=>(hI.below.block k hk.2.2.1))) (fun k hk=>⟨hk.1,hk.2.2.1⟩)
  have hR0:Kd.R k37 37 W bV okR (.slice A1 l1.length c1) l1:=Kd.R_mono (Kd.R_move (Kd.R_bound HR1.out) (fun k hk=>(hI.below.block k hk.2.2.1))) (fun k hk=>hk.1)
  have htl:=targets_len l0 l1
  have HT:=Lib.hid hrow
  have E0:=Lib.hid e0
  have E5:=Lib.hid e5
  have HS:=Lib.hid hS0
  have HRR:=Lib.hid hR0
  have HBW:=Lib.hid hI.below
  have HK:=Lib.hid hK
  have k0:=bk_c e0 0
  have k5:=bk_c e5 0
  simp only [List.getElem?_toArray,List.getElem?_cons_zero] at k0 k5
  have zW:w.heap.size < W.heap.size:=by omega
  have zW5:w1.heap.size < W.heap.size:=by omega
  clear hxs hI hK hst hrow e0 e5 hS0 hR0 hV0 hV2 hVT hI0 hop hb0 c1' c2' b0' b5' h1at hcel hcelR hcl hcl0 hC0 hC1 kx
  go_wp2_with (first | ((with_reducible refine gate_dst (N:=39) rfl ?_);go_loud (refine Kd.R_make Kd.bool _ 4 rfl (N:=39) rfl 55 _ _ rfl (l0.length:Int) rfl rfl Try.underlying55 (.bool false) 1 info4 rfl (by decide) (by omega) false (ok:=fun _=>True) (okp:=fun _=>True) rfl (fun _ hk=>hk) trivial (by omega) (by simp;omega) (Below.refl _ _) (Nat.le_refl _) ?_);go_loud (intro v2 w2 ho2 hb2 hg2 hnew2;obtain ⟨Ao,co,ev2⟩:=Kd.R_slice ho2;rw [List.length_replicate,Int.toNat_natCast] at ev2;subst ev2;rw [Int.toNat_natCast] at ho2;have HO2:=Lib.hid ho2;have HB2:=Lib.hid hb2;have hz2:=hb2.size;clear ho2 hb2 hg2 hnew2)))
  go_loopw [9] (fun s9 wl=>∃ (i f:Nat) (s:List S35) (o:List Bool),i≤l0.length∧l0.length≤i+f∧s9=.int .i64 i∧s.length=l0.length∧o.length=l0.length∧Hid (fuseGo (targets l0 l1) f s o i=fuseEnd l0 l1)∧Hid (∀ x ∈ s,wfS x)∧Hid (Below bV W wl)∧Hid (∀ k,k < W.heap.size→(0 < l0.length→k≠gS)→wl.heap[k]?=W.heap[k]?)∧Hid (Kd.R k35 35 wl bV (fun k=>okS k∧k < w.heap.size) (.slice A0 l0.length c0) s)∧Hid (Kd.R Kd.bool 4 wl W.heap.size (fun _=>True) (.slice Ao l0.length co) o)) (fun s9 _=>l0.length - (intOf s9).toNat)
  case atStart=>exact ⟨0,l0.length,l0,_,Nat.zero_le _,by omega,rfl,rfl,by simp,rfl,HW0,HB2.out.mono (by omega),(fun k h1 _=>HB2.out.block k h1),Kd.R_below HS.out HB2.out,HO2⟩
  case round =>
   obtain ⟨i,f,s,o,hi,hif,rfl,hsl,hol,HG,HWs,HBl,HSM,HSr,HOr⟩:=hrel
   have hszl:=HBl.out.size
   have ge0:wr.heap[w.heap.size]?=some (.cells #[.slice A0 l0.length c0] 27 (0,0)):=(HSM.out _ zW (fun h=>by rcases sS with ⟨q1,q2,_⟩ | ⟨q1,_⟩ <;> omega)).trans E0.out
   have ge5:wr.heap[w1.heap.size]?=some (.cells #[.slice At l0.length ct] 55 (0,0)):=(HSM.out _ zW5 (fun h=>by rcases sS with ⟨q1,q2,_⟩ | ⟨q1,_⟩ <;> omega)).trans E5.out
   have kr0:=bk_c ge0 0
   have kr5:=bk_c ge5 0
   simp only [List.getElem?_toArray,List.getElem?_cons_zero] at kr0 kr5
   have GE0:=Lib.hid ge0
   have GE5:=Lib.hid ge5
   clear ge0 ge5
   by_cases hlt:i+1 < l0.length
   ·have hltz:(i:Int)+1 < (l0.length:Int):=by omega
    have hT':=hT (by omega)
    have hS':=hS (by omega)
    obtain ⟨hnn,hcs,hC⟩:=Kd.R_reads' HSr.out
    subst hT' hS'
    obtain ⟨ad,eA,q0,q1,q2,q3,q4⟩:=at_T35 hC (i:Int) (by omega) (by omega)
    injection eA with eA
    subst eA
    obtain ⟨ad,eA,p0,p1,p2,p3,p4⟩:=at_T35 hC ((i+1:Nat):Int) (by omega) (by omega)
    injection eA with eA
    subst eA
    simp only [Int.toNat_natCast,Addr.add_lit,Nat.zero_add] at q0 q1 q2 q3 q4 p0 p1 p2 p3 p4
    have er:rdQ s (i:Int)=s.getD i z35:=by simp [rdQ]
    have er':rdQ s ((i+1:Nat):Int)=s.getD (i+1) z35:=by simp [rdQ]
    rw [er] at q0 q1 q2 q3 q4
    rw [er'] at p0 p1 p2 p3 p4
    clear hC er er' hnn hcs
    obtain ⟨x,hx⟩:∃ x,s.getD i z35=x:=⟨_,rfl⟩
    obtain ⟨y,hy⟩:∃ y,s.getD (i+1) z35=y:=⟨_,rfl⟩
    rw [hx] at q0 q1 q2 q3 q4
    rw [hy] at p0 p1 p2 p3 p4
    obtain ⟨z,b,hfz,hzb⟩:∃ (z:S35) (b:Bool),opt_fused.f 3 x.f0 x.f1 x.f2 x.f3 x.f4 y.f0 y.f1 y.f2 y.f3 y.f4=some (z.f0,z.f1,z.f2,z.f3,z.f4,b)∧((b=true∧fz x y=some z)∨(b=false∧fz x y=none)):=by
     cases hz:fz x y with
     | some z=>exact ⟨z,true,fused_some hz,.inl ⟨rfl,rfl⟩⟩
     | none=>exact ⟨z35,false,fused_none hz,.inr ⟨rfl,rfl⟩⟩
    have HFZ:=Lib.hid hfz
    have HZB:=Lib.hid hzb
    have HX:=Lib.hid hx
    have HY:=Lib.hid hy
    clear hfz hzb hx hy
    go_wp2_with fail
    go_cut [10,11] from 47 to 59 (fun v10 v11 wc=>∃ gx,v10=.pointer (some ⟨gx,0,none⟩)∧v11=.bool b∧Hid (Below wr.heap.size wr wc)∧Hid (wr.heap.size≤gx)∧Hid (wc.heap[gx]?=some (.cells #[.int .i64 z.f0,.int .i64 z.f1,.int .i64 z.f2,.int .i64 z.f3,.int .i64 z.f4] 35 (0,0))))
    case first =>
     have n0:=blk_lt GE0.out
     have hi0:(0:Int)≤(i:Int):=by omega
     have hi1:(i:Int) < (l0.length:Int):=by omega
     have hi2:(0:Int)≤(i:Int)+1:=by omega
     have hti:((i:Int)+1).toNat=i+1:=by omega
     have hw1:IntKind.i64.wrap ((i:Int)+1)=(i:Int)+1:=by rw [i64_w];unfold wrap64;omega
     have n1:gS < wr.heap.size:=World.block_lt_of_cell? _ _ q0
     go_region_held3 (fun w'=>w'.cell? ⟨w.heap.size,0,none⟩=some (.slice (some ⟨gS,0,none⟩) l0.length c0)∧w'.cell? ⟨gS,i*5,none⟩=some (.int .i64 x.f0)∧w'.cell? ⟨gS,i*5+1,none⟩=some (.int .i64 x.f1)∧w'.cell? ⟨gS,i*5+2,none⟩=some (.int .i64 x.f2)∧w'.cell? ⟨gS,i*5+3,none⟩=some (.int .i64 x.f3)∧w'.cell? ⟨gS,i*5+4,none⟩=some (.int .i64 x.f4)∧w'.cell? ⟨gS,(i+1)*5,none⟩=some (.int .i64 y.f0)∧w'.cell? ⟨gS,(i+1)*5+1,none⟩=some (.int .i64 y.f1)∧w'.cell? ⟨gS,(i+1)*5+2,none⟩=some (.int .i64 y.f2)∧w'.cell? ⟨gS,(i+1)*5+3,none⟩=some (.int .i64 y.f3)∧w'.cell? ⟨gS,(i+1)*5+4,none⟩=some (.int .i64 y.f4))
      ((repeat' apply And.intro) <;> (first | (with_reducible assumption) | exact bkeep (W:=wr) (by (with_reducible repeat (first | refine b_st ?_ (Nat.le_refl _) | refine b_al ?_ _ | refine below_drew ?_ | refine bthen ?_ hbz));(with_reducible exact Below.refl _ _)) (by assumption)))
      ((go_at_call 57;refine (opt_fused.calls 3 _ _ _ _ _ _ _ _ _ _ z.f0 z.f1 z.f2 z.f3 z.f4 b _ HFZ.out).mono ?_;rintro e wz ⟨rfl,hbz⟩;try (have hN:wz.heap[wr.heap.size]?=some (.cells #[.int .i64 0,.int .i64 0,.int .i64 0,.int .i64 0,.int .i64 0] 35 (0,0)):=blk_below (by with_reducible first | exact blk_new wr _ | exact bk_d (blk_new wr _)) hbz;have m0:=bk_c hN 0;have m1:=bk_c hN 1;have m2:=bk_c hN 2;have m3:=bk_c hN 3;have m4:=bk_c hN 4;simp only [List.getElem?_toArray,List.getElem?_cons_zero,List.getElem?_cons_succ] at m0 m1 m2 m3 m4;have z0:=bk_f hN 0;have z1:=bk_f hN 1;have z2:=bk_f hN 2;have z3:=bk_f hN 3;have z4:=bk_f hN 4)))
     ·have hbB:Below wr.heap.size wr (wz.alloc (.cells #[.int .i64 z.f0,.int .i64 z.f1,.int .i64 z.f2,.int .i64 z.f3,.int .i64 z.f4] 35)):=(by (with_reducible repeat (first | refine b_st ?_ (Nat.le_refl _) | refine b_al ?_ _ | refine below_drew ?_ | refine bthen ?_ hbz));(with_reducible exact Below.refl _ _))
      have hbC:=Lib.hid hbB
      have hbD:=Lib.hid (blk_new wz (.cells #[.int .i64 z.f0,.int .i64 z.f1,.int .i64 z.f2,.int .i64 z.f3,.int .i64 z.f4] 35 (0,0)))
      have hbE:wr.heap.size≤wz.heap.size:=hbz.size
      go_wp2_with fail
      go_meet
      case rel=>exact ⟨_,rfl,rfl,hbC,Lib.hid hbE,hbD⟩
     ·have hbB:Below wr.heap.size wr (((((wz.setCell ⟨wr.heap.size,0,none⟩ (.int .i64 z.f0)).setCell ⟨wr.heap.size,1,none⟩ (.int .i64 z.f1)).setCell ⟨wr.heap.size,2,none⟩ (.int .i64 z.f2)).setCell ⟨wr.heap.size,3,none⟩ (.int .i64 z.f3)).setCell ⟨wr.heap.size,4,none⟩ (.int .i64 z.f4)):=(by (with_reducible repeat (first | refine b_st ?_ (Nat.le_refl _) | refine b_al ?_ _ | refine below_drew ?_ | refine bthen ?_ hbz));(with_reducible exact Below.refl _ _))
      have hbC:=Lib.hid hbB
      have hbD:=Lib.hid (blk_set (blk_set (blk_set (blk_set (blk_set hN 0 (.int .i64 z.f0)) 1 (.int .i64 z.f1)) 2 (.int .i64 z.f2)) 3 (.int .i64 z.f3)) 4 (.int .i64 z.f4))
      go_wp2_with fail
      go_meet
      case rel=>exact ⟨_,rfl,rfl,hbC,Lib.hid (Nat.le_refl _),hbD⟩
    case rest =>
     obtain ⟨gx,rfl,rfl,HBc,HGx,HXc⟩:=hcut
     have hi1:(i:Int) < (l0.length:Int):=by omega
     have hgS:gS < w.heap.size:=by rcases sS with ⟨q1,q2,_⟩ | ⟨q1,_⟩ <;> omega
     have hbl1:bV≤wr.heap.size:=by omega
     have HSc:=Lib.hid (Kd.R_below HSr.out HBc.out)
     have HOc:=Lib.hid (Kd.R_below HOr.out HBc.out)
     have hTr:=Kd.R_move (Kd.R_bound HT.out) (w1:=wr) (fun k hk=>HSM.out k (by have:=hk.1;omega) (fun _=>by have:=hk.2.1;omega))
     have HTc:=Lib.hid (Kd.R_below hTr HBc.out)
     have HBWc:=Lib.hid (HBl.out.trans (HBc.out.mono hbl1))
     have kc0:=bk_c (blk_below GE0.out HBc.out) 0
     have kc5:=bk_c (blk_below GE5.out HBc.out) 0
     have x0:=bk_c HXc.out 0
     have x1:=bk_c HXc.out 1
     have x2:=bk_c HXc.out 2
     have x3:=bk_c HXc.out 3
     have x4:=bk_c HXc.out 4
     simp only [List.getElem?_toArray,List.getElem?_cons_zero,List.getElem?_cons_succ] at kc0 kc5 x0 x1 x2 x3 x4
     have hzc:=HBc.out.size
     obtain ⟨f',rfl⟩:∃ f',f=f'+1:=⟨f - 1,by omega⟩
     clear hTr q0 q1 q2 q3 q4 p0 p1 p2 p3 p4 kr0 kr5
     rcases HZB.out with ⟨rfl,hz⟩ | ⟨rfl,hz⟩
     ·obtain ⟨hnT,hcT,hCT⟩:=Kd.R_reads' HTc.out
      obtain ⟨ad,eA,tb⟩:=Kd.at_bool hCT ((i+1:Nat):Int) (by omega) (by omega)
      injection eA with eA
      subst eA
      simp only [Int.toNat_natCast,Addr.add_lit,Nat.zero_add] at tb
      have ht0:rdOf false (targets l0 l1) ((i+1:Nat):Int)=(targets l0 l1).getD (i+1) false:=by simp [rdOf]
      rw [ht0] at tb
      have HZ:=Lib.hid hz
      clear hCT hz ht0 hnT hcT htl
      cases htt:(targets l0 l1).getD (i+1) false with
      | true =>
       rw [htt] at tb
       have hgo:=fuseGo_named (T:=targets l0 l1) (f:=f') (s:=s) (o:=o) (i:=i) (by omega) (by rw [HX.out,HY.out];exact HZ.out) htt
       have HGO:=Lib.hid (hgo.symm.trans HG.out)
       clear hgo htt
       go_wp2_with fail
       refine ⟨⟨i+1,f',s,o,by omega,by omega,by go_num,hsl,hol,HGO.out,HWs.out,HBWc.out,(fun k h1 h2=>(HBc.out.block k (by omega)).trans (HSM.out k h1 h2)),HSc.out,HOc.out⟩,by simp [intOf];omega⟩
      | false =>
       rw [htt] at tb
       have hgo:=fuseGo_some (T:=targets l0 l1) (f:=f') (s:=s) (o:=o) (i:=i) (by omega) (by rw [HX.out,HY.out];exact HZ.out) htt
       have HGO:=Lib.hid (hgo.symm.trans HG.out)
       have hwz:wfS z:=fz_wf (wfS_getD HWs.out i) (wfS_getD HWs.out (i+1)) (by rw [HX.out,HY.out];exact HZ.out)
       have HWZ:=Lib.hid (set_wf HWs.out i hwz)
       obtain ⟨gO,cellsO,hAO,hbO,hlO,_,hhO,hq1,hq2⟩:=R_shape HOc.out (by omega) (by show 0 < 1;omega)
       clear hq1 hq2
       subst hAO
       obtain ⟨ce,hce1,_,hce2,hce3⟩:=Kd.R_elem HSc.out z35 (i:Int) (by omega) (by omega)
       obtain ⟨co',ho1,_,ho2,_⟩:=Kd.R_elem HOc.out false ((i+1:Nat):Int) (by omega) (by omega)
       have HCE:=Lib.hid hce2
       have HCO:=Lib.hid ho2
       have hdrop:ce.take 0 ++ [Value.int .i64 z.f0,.int .i64 z.f1,.int .i64 z.f2,.int .i64 z.f3,.int .i64 z.f4] ++ ce.drop (0+5)=[.int .i64 z.f0,.int .i64 z.f1,.int .i64 z.f2,.int .i64 z.f3,.int .i64 z.f4]:=by
        rw [List.drop_eq_nil_of_le (by rw [hce1];show 5≤0+5;omega)];simp
       have hdropO:co'.take 0 ++ [Value.bool true] ++ co'.drop (0+1)=[Value.bool true]:=by
        rw [List.drop_eq_nil_of_le (by rw [ho1];show 1≤0+1;omega)];simp
       have HDR:=Lib.hid hdrop
       have HDO:=Lib.hid hdropO
       have hHO:=Lib.hid hhO
       have HOL:=Lib.hid ho1
       have HCL:=Lib.hid hce1
       clear hgo htt hce1 hce2 hce3 ho1 ho2 hdrop hdropO hhO hwz
       go_wp2_with (first | ((with_reducible refine gate_store (t:=35) (p:=75) rfl ?_);go_loud (refine Kd.R_store k35 (w0:=W) bV rfl rfl 35 (.tmp 75) (.tmp 74) rfl 35 (i:Int) 0 s z (.agg #[.int .i64 z.f0,.int .i64 z.f1,.int .i64 z.f2,.int .i64 z.f3,.int .i64 z.f4]) [.int .i64 z.f0,.int .i64 z.f1,.int .i64 z.f2,.int .i64 z.f3,.int .i64 z.f4] ce _ (fun _=>False) rfl (by show i*5=(i:Int).toNat*5+0;simp) rfl rfl (by kernel_rfl) (ones5 z) HSc.out (by omega) (by omega) HCL.out HCE.out (by show 0+5≤5;omega) (by rw [show ([Value.int .i64 z.f0,.int .i64 z.f1,.int .i64 z.f2,.int .i64 z.f3,.int .i64 z.f4]:List Value).length=5 from rfl,HDR.out];exact k35_mkM _ _ _ z) (fun _ hk=>hk.elim) HBWc.out ?_);go_loud (intro w4 hs4 hb4 hg4;have HS4:=Lib.hid hs4;have HB4:=Lib.hid hb4;have hz4:=hg4.size;have HG4:=Lib.hid hg4;clear hs4 hb4 hg4)) | ((with_reducible refine gate_store (t:=4) (p:=76) rfl ?_);go_loud (refine Kd.R_store Kd.bool (w0:=w4) W.heap.size rfl rfl 4 (.tmp 76) (.const (.bool true)) rfl 4 ((i+1:Nat):Int) 0 o true (.bool true) [.bool true] co' (fun _=>True) (fun _=>False) rfl (by show i+1=((i+1:Nat):Int).toNat*1+0;simp) rfl rfl (by kernel_rfl) ones1 (Kd.R_mono (Kd.R_move (Kd.R_bound HOc.out) (fun k hk=>HG4.out.block k hk.2.2.1 (by intro e;injection e with e;have:=hk.2.1;omega))) (fun _ _=>trivial)) (by omega) (by omega) HOL.out (fun j u hj=>by rw [World.cell?_of_block (HG4.out.block gO hlO (by intro e;injection e with e;omega))];exact HCO.out j u hj) (by show 0+1≤1;omega) (by rw [show ([Value.bool true]:List Value).length=1 from rfl,HDO.out];rfl) (fun _ hk=>hk.elim) (Below.refl _ _) ?_);go_loud (intro w5 hs5 hb5 hg5;have HO5:=Lib.hid hs5;have HB5:=Lib.hid hb5;clear hs5 hb5 hg5)))
       have hs4':=HS4.out
       have ho5':=HO5.out
       simp only [Int.toNat_natCast] at hs4' ho5'
       refine ⟨⟨i+2,f',s.set i z,o.set (i+1) true,by omega,by omega,by go_num,by simp;exact hsl,by simp;exact hol,HGO.out,HWZ.out,HB4.out.trans (HB5.out.mono (by omega)),(fun k h1 h2=>?_),?_,ho5'⟩,by simp [intOf];omega⟩
       ·rw [HB5.out.block k h1,HG4.out.block k (by omega) (by intro e;injection e with e;exact h2 (by omega) e),HBc.out.block k (by omega)]
        exact HSM.out k h1 h2
       ·exact Kd.R_move hs4' (fun k hk=>HB5.out.block k (by have:=hk.2;omega))
     ·have hgo:=fuseGo_none (T:=targets l0 l1) (f:=f') (s:=s) (o:=o) (i:=i) (by omega) (by rw [HX.out,HY.out];exact hz)
      have HGO:=Lib.hid (hgo.symm.trans HG.out)
      clear hgo hz
      go_wp2_with fail
      refine ⟨⟨i+1,f',s,o,by omega,by omega,by go_num,hsl,hol,HGO.out,HWs.out,HBWc.out,(fun k h1 h2=>(HBc.out.block k (by omega)).trans (HSM.out k h1 h2)),HSc.out,HOc.out⟩,by simp [intOf];omega⟩
   ·go_wp2_with fail
    have hend:=HG.out
    rw [fuseGo_end (by omega)] at hend
    have hRW:Kd.R k37 37 wr bV (fun k=>okR k∧k < w.heap.size) (.slice A1 l1.length c1) l1:=by
     refine Kd.R_mono (Kd.R_move (Kd.R_bound HR1.out) (w1:=wr) (fun k hk=>?_)) (fun k hk=>⟨hk.1,hk.2.2.1⟩)
     rw [HSM.out k (by have:=hk.2.2.1;omega) (fun hn e=>?_),HBW.out.block k hk.2.2.1]
     subst e
     obtain ⟨q,hq,cells,hc⟩:=hk.2.2.2
     rcases sS with ⟨_,_,_,cs,hcs⟩ | ⟨q1,_⟩
     ·rw [hKb0.block k hk.2.2.1,hc] at hcs
      injection hcs with hcs
      injection hcs with _ hcs
      subst hcs
      exact absurd hq (by decide)
     ·omega
    obtain ⟨hnO,hcO,hCO⟩:=Kd.R_reads' HOr.out
    obtain ⟨hnS,hcS,hCS⟩:=Kd.R_reads' HSr.out
    have hcall:=without_calls A0 c0 s A1 c1 l1 Ao co o wr bV (fun k=>okR k∧k < w.heap.size) hCS (by omega) hRW hCO (by omega) (by omega) (by omega) hs1 (by omega) HWs.out HW1.out
    rw [hsl,hol] at hcall
    refine hcall.mono ?_
    rintro e w5 ⟨v5,rfl,h1,h2,h3,h4⟩
    have H1:=Lib.hid h1
    have H2:=Lib.hid h2
    have H3:=Lib.hid h3
    have H4:=Lib.hid h4
    have HEND:=Lib.hid hend
    have HRW:=Lib.hid hRW
    clear h1 h2 h3 h4 hcall hend hCO hCS hnO hnS hcO hcS hRW
    dsimp only
    go_wp2_with fail
    have hDw:D < W.heap.size:=(Array.getElem?_eq_some_iff.1 HK.out).1
    have hKr:wr.heap[D]?=some (.deferred (some [])):=(HSM.out D hDw (fun hn e=>by rcases sS with ⟨_,q2,_⟩ | ⟨q1,_⟩ <;> omega)).trans HK.out
    have hnD:some D≠(Value.slice A1 l1.length c1).ownBlock:=fun e=>by
     have:=(HRW.out.1 D e.symm).2
     omega
    have hK5:w5.heap[D]?=some (.deferred (some [])):=(H4.out D (by omega) hnD).trans hKr
    refine ⟨by simp,.inl ⟨_,_,rfl,run_takeDeferred hK5,?_⟩⟩
    refine ⟨_,results_tmp rfl _ _ _,?_⟩
    have hb5:=H3.out.size
    refine ⟨v5,rfl,?_,?_,?_,?_⟩
    ·have e1:(fuseP l0 l1).1=(keptAt s o l0.length).map (placed (toNow o l0.length)):=by unfold fuseP;rw [← HEND.out]
     rw [e1]
     exact Kd.R_lower (Kd.R_mono (Kd.R_move (Kd.R_bound H1.out) (fun k hk=>(grownBy_putObj' w5 D _).block k hk.2.2.1 (by intro e;injection e with e;have:=hk.2.1;omega))) (fun _ _=>trivial)) (by omega)
    ·have e1:(fuseP l0 l1).2=l1.map (placedR (toNow o l0.length)):=by unfold fuseP;rw [← HEND.out]
     rw [e1]
     exact Kd.R_mono (Kd.R_move H2.out (fun k hk=>(grownBy_putObj' w5 D _).block k (by have:=hk.2;omega) (by intro e;injection e with e;have:=hk.2;omega))) (fun k hk=>hk.1)
    ·have h1:Below bV w W:=HBW.out.mono hbV
     have h2:Below bV w w5:=(h1.trans HBl.out).trans H3.out
     exact h2.grown (grownBy_putObj' w5 D _) (by have:=h2.size;omega) (fun k e=>by injection e with e;omega)
    ·intro k g1 g2 g3
     rw [(grownBy_putObj' w5 D _).block k (by omega) (by intro e;injection e with e;omega),H4.out k (by omega) g3,HSM.out k (by omega) (fun hn e=>by
      rw [hS hn] at g2
      subst e
      exact g2 rfl),HBW.out.block k g1]
theorem typed_ne {W:World} {k:Nat} (h:∃ q,q ∈ 35 :: k35.E∧∃ cells,W.heap[k]?=some (.cells cells q (0,0))) (h':∃ q,q ∈ 37 :: k37.E∧∃ cells,W.heap[k]?=some (.cells cells q (0,0))):False:=by
 obtain ⟨q,hq,cs,hc⟩:=h
 obtain ⟨q',hq',cs',hc'⟩:=h'
 rw [hc] at hc'
 injection hc' with hc'
 injection hc' with _ hc'
 subst hc'
 have e0:k35.E=[]:=rfl
 have e1:q=35:=by simpa [e0] using hq
 subst e1
 exact absurd hq' (by decide)
theorem own_ne_of_types {W:World} {ba bb:Nat} {oka okb:Nat→Prop} {va vb:Value} {xs:List S35} {ys:List S37} (ha:k35.R 35 W ba oka va xs) (hb:k37.R 37 W bb okb vb ys):∀ k,va.ownBlock=some k→vb.ownBlock≠some k:=by
 intro k h1 h2
 obtain ⟨_,_,_,q,hq,cs,hc⟩:=(Kd.R_bound ha).1 k h1
 obtain ⟨_,_,_,q',hq',cs',hc'⟩:=(Kd.R_bound hb).1 k h2
 rw [hc] at hc'
 injection hc' with hc'
 injection hc' with _ hc'
 subst hc'
 have e0:k35.E=[]:=rfl
 have e1:q=35:=by simpa [e0] using hq
 subst e1
 exact absurd hq' (by decide)
set_option maxRecDepth 100000 in
set_option maxHeartbeats 2000000 in
theorem Fuse_calls (A0:Option Addr) (c0:Nat) (l0:List S35) (A1:Option Addr) (c1:Nat) (l1:List S35) (A2:Option Addr) (c2:Nat) (l2:List S37) (w:World)
  (hr0:Kd.C k35 w A0 l0.length l0) (hc0:l0.length≤c0) (hr1:Kd.C k35 w A1 l1.length l1) (hc1:l1.length≤c1) (hr2:Kd.C k37 w A2 l2.length l2) (hc2:l2.length≤c2)
  (hf:fitB l0 l1 l2=true) (hw0:∀ x ∈ l0,wfS x) (hw1:∀ x ∈ l1,wfS x) (hw2:∀ x ∈ l2,wfI x.f1) :
  Calls Try.prog 13 #[.agg #[.slice A0 l0.length c0,.slice A1 l1.length c1,.slice A2 l2.length c2]] w fun e w'=>∃ v0_ v1_ v2_:Value,e=.returned (.agg #[v0_,v1_,v2_])∧Kd.R k35 35 w' w.heap.size (fun k_=>some k_≠(v1_:Value).ownBlock) v0_ (fuseP l0 l2).1∧Kd.R k35 35 w' w.heap.size (fun k_=>some k_≠(v0_:Value).ownBlock) v1_ (fuseP l1 []).1∧Kd.R k37 37 w' w.heap.size (fun _=>True) v2_ (fuseP l0 l2).2∧Below w.heap.size w w':=by
 obtain ⟨f0,f1,f2⟩:=fitB_iff.1 hf
 have hcp:=copied_some f0 f1 f2
 go_enter Try.func13,Try.ntmps13
 have HR0:=Lib.hid hr0
 have HR1:=Lib.hid hr1
 have HR2:=Lib.hid hr2
 have HW0:=Lib.hid hw0
 have HW1:=Lib.hid hw1
 have HW2:=Lib.hid hw2
 have HCP:=Lib.hid hcp
 clear hr0 hr1 hr2 hw0 hw1 hw2 hcp
 go_wp2_with fail
 have hbA:Below w.heap.size w ((w.alloc (.cells #[.slice A0 l0.length c0,.slice A1 l1.length c1,.slice A2 l2.length c2] 30)).alloc (.cells #[.slice none 0 0,.slice none 0 0,.slice none 0 0] 30)):=((Below.refl _ _).alloc (Nat.le_refl _) _).alloc (by simp) _
 refine (opt_copied.calls A0 c0 l0 A1 c1 l1 A2 c2 l2 l0 l1 l2 _ (Kd.C_below HR0.out hbA) hc0 (Kd.C_below HR1.out hbA) hc1 (Kd.C_below HR2.out hbA) hc2 HCP.out).mono ?_
 rintro e w1 ⟨v0,v1,v2,rfl,hV0,hV1,hV2,hB1⟩
 have b1:w1.heap[w.heap.size]?=some (.cells #[.slice A0 l0.length c0,.slice A1 l1.length c1,.slice A2 l2.length c2] 30 (0,0)):=blk_below (bk_a (blk_new _ _) _) hB1
 have b2:w1.heap[w.heap.size+1]?=some (.cells #[.slice none 0 0,.slice none 0 0,.slice none 0 0] 30 (0,0)):=blk_below (by have:=blk_new (w.alloc (.cells #[.slice A0 l0.length c0,.slice A1 l1.length c1,.slice A2 l2.length c2] 30)) (.cells #[.slice none 0 0,.slice none 0 0,.slice none 0 0] 30);simpa using this) hB1
 have hBw:Below w.heap.size w w1:=hbA.trans (hB1.mono (by simp;omega))
 have n02:=own_ne_of_types hV0 hV2
 have n12:=own_ne_of_types hV1 hV2
 have hV0':=Kd.R_bound hV0
 have hV1':=Kd.R_bound hV1
 have hV2':=Kd.R_bound hV2
 simp only [World.size_alloc] at hV0' hV1' hV2'
 have z1:=hB1.size
 simp only [World.size_alloc] at z1
 have z1a:w.heap.size < w1.heap.size:=by omega
 have z1b:w.heap.size+1 < w1.heap.size:=by omega
 obtain ⟨a0,d0,e0⟩:=Kd.R_slice hV0'
 obtain ⟨a1,d1,e1⟩:=Kd.R_slice hV1'
 obtain ⟨a2,d2,e2⟩:=Kd.R_slice hV2'
 subst e0 e1 e2
 have B1:=Lib.hid b1
 have B2:=Lib.hid b2
 have HV0:=Lib.hid hV0'
 have HV1:=Lib.hid hV1'
 have HV2:=Lib.hid hV2'
 have HBw:=Lib.hid hBw
 have k1a:=bk_c b1 0
 have k1b:=bk_c b1 1
 have k1c:=bk_c b1 2
 have f1a:=bk_f b1 0
 have f1b:=bk_f b1 1
 have f1c:=bk_f b1 2
 simp only [List.getElem?_toArray,List.getElem?_cons_zero,List.getElem?_cons_succ] at k1a k1b k1c
 have N02:=Lib.hid n02
 have N12:=Lib.hid n12
 clear hbA hV0 hV1 hV2 hB1 b1 b2 hBw hV0' hV1' hV2' n02 n12
 dsimp only
 go_wp2_with fail
 have hBs:∀ k,k≠w.heap.size→(((w1.setCell ⟨w.heap.size,0,none⟩ (.slice a0 l0.length d0)).setCell ⟨w.heap.size,1,none⟩ (.slice a1 l1.length d1)).setCell ⟨w.heap.size,2,none⟩ (.slice a2 l2.length d2)).heap[k]?=w1.heap[k]?:=fun k h=>by
  rw [Below.heap_setCell _ _ _ _ h,Below.heap_setCell _ _ _ _ h,Below.heap_setCell _ _ _ _ h]
 have bB:(((w1.setCell ⟨w.heap.size,0,none⟩ (.slice a0 l0.length d0)).setCell ⟨w.heap.size,1,none⟩ (.slice a1 l1.length d1)).setCell ⟨w.heap.size,2,none⟩ (.slice a2 l2.length d2)).heap[w.heap.size]?=some (.cells #[.slice a0 l0.length d0,.slice a1 l1.length d1,.slice a2 l2.length d2] 30 (0,0)):=blk_set (blk_set (blk_set B1.out 0 _) 1 _) 2 _
 have hBB:Below w.heap.size w (((w1.setCell ⟨w.heap.size,0,none⟩ (.slice a0 l0.length d0)).setCell ⟨w.heap.size,1,none⟩ (.slice a1 l1.length d1)).setCell ⟨w.heap.size,2,none⟩ (.slice a2 l2.length d2)):=((HBw.out.setCell (p:=⟨w.heap.size,0,none⟩) (Nat.le_refl _) _).setCell (p:=⟨w.heap.size,1,none⟩) (Nat.le_refl _) _).setCell (p:=⟨w.heap.size,2,none⟩) (Nat.le_refl _) _
 have hsB:(((w1.setCell ⟨w.heap.size,0,none⟩ (.slice a0 l0.length d0)).setCell ⟨w.heap.size,1,none⟩ (.slice a1 l1.length d1)).setCell ⟨w.heap.size,2,none⟩ (.slice a2 l2.length d2)).heap.size=w1.heap.size:=by simp [World.setCell]
 generalize hwB:(((w1.setCell ⟨w.heap.size,0,none⟩ (.slice a0 l0.length d0)).setCell ⟨w.heap.size,1,none⟩ (.slice a1 l1.length d1)).setCell ⟨w.heap.size,2,none⟩ (.slice a2 l2.length d2))=wB at *
 clear hwB
 refine (fuse_calls a0 d0 l0 a2 d2 l2 wB (w.heap.size+2) _ _ (Kd.R_move HV0.out (fun k hk=>hBs k (by have:=hk.2.1;omega))) (Kd.R_move HV2.out (fun k hk=>hBs k (by have:=hk.2.1;omega))) f0 (by omega) (by omega) HW0.out HW2.out).mono ?_
 rintro e w3 ⟨v0',rfl,hD,hRw,hb3,hf3⟩
 have o0:some w.heap.size≠(Value.slice a0 l0.length d0).ownBlock:=fun e=>by have:=(HV0.out.1 _ e.symm).2.1;omega
 have o2:some w.heap.size≠(Value.slice a2 l2.length d2).ownBlock:=fun e=>by have:=(HV2.out.1 _ e.symm).2.1;omega
 have o0':some (w.heap.size+1)≠(Value.slice a0 l0.length d0).ownBlock:=fun e=>by have:=(HV0.out.1 _ e.symm).2.1;omega
 have o2':some (w.heap.size+1)≠(Value.slice a2 l2.length d2).ownBlock:=fun e=>by have:=(HV2.out.1 _ e.symm).2.1;omega
 have z3:=hb3.size
 have b3:w3.heap[w.heap.size]?=_:=(hf3 w.heap.size (by omega) o0 o2).trans bB
 have b3':w3.heap[w.heap.size+1]?=_:=(hf3 (w.heap.size+1) (by omega) o0' o2').trans ((hBs _ (by omega)).trans B2.out)
 have hE3:=Kd.R_move HV1.out (w1:=w3) (fun k hk=>by
  rw [hf3 k (by have:=hk.2.2.1;omega) (fun e=>hk.1 (by exact e)) (fun e=>typed_ne hk.2.2.2 (HV2.out.1 _ e.symm).2.2.2),hBs k (by have:=hk.2.1;omega)])
 have hD':=Kd.R_bound hD
 have hB3:Below w.heap.size w w3:=hBB.trans (hb3.mono (by omega))
 obtain ⟨a0',d0',e0'⟩:=Kd.R_slice hD'
 subst e0'
 have HD:=Lib.hid hD'
 have HRw:=Lib.hid hRw
 have HE3:=Lib.hid hE3
 have HB3:=Lib.hid hB3
 have HF3:=Lib.hid hf3
 have C3:=Lib.hid b3
 have C3':=Lib.hid b3'
 have k3a:=bk_c b3 0
 have k3b:=bk_c b3 1
 have k3c:=bk_c b3 2
 have f3a:=bk_f b3 0
 have f3b:=bk_f b3 1
 have f3c:=bk_f b3 2
 simp only [List.getElem?_toArray,List.getElem?_cons_zero,List.getElem?_cons_succ] at k3a k3b k3c
 have z3a:w.heap.size < w3.heap.size:=by omega
 have z3b:w.heap.size+1 < w3.heap.size:=by omega
 clear hD hD' hRw hE3 hB3 hf3 b3 b3' k1a k1b k1c f1a f1b f1c bB hBs hBB hb3 o0 o2 o0' o2'
 dsimp only
 go_wp2_with fail
 have hCs:∀ k,k≠w.heap.size→(w3.setCell ⟨w.heap.size,0,none⟩ (.slice a0' (fuseP l0 l2).1.length d0')).heap[k]?=w3.heap[k]?:=fun k h=>Below.heap_setCell _ _ _ _ h
 have bC:(w3.setCell ⟨w.heap.size,0,none⟩ (.slice a0' (fuseP l0 l2).1.length d0')).heap[w.heap.size]?=some (.cells #[.slice a0' (fuseP l0 l2).1.length d0',.slice a1 l1.length d1,.slice a2 l2.length d2] 30 (0,0)):=blk_set C3.out 0 _
 have hBC:Below w.heap.size w (w3.setCell ⟨w.heap.size,0,none⟩ (.slice a0' (fuseP l0 l2).1.length d0')):=HB3.out.setCell (p:=⟨w.heap.size,0,none⟩) (Nat.le_refl _) _
 have hsC:(w3.setCell ⟨w.heap.size,0,none⟩ (.slice a0' (fuseP l0 l2).1.length d0')).heap.size=w3.heap.size:=by simp [World.setCell]
 generalize hwC:w3.setCell ⟨w.heap.size,0,none⟩ (.slice a0' (fuseP l0 l2).1.length d0')=wC at *
 clear hwC
 refine (fuse_calls a1 d1 l1 none 0 [] wC (w.heap.size+2) _ (fun _=>False) (Kd.R_move HE3.out (fun k hk=>hCs k (by have:=hk.2.1;omega))) (Kd.R_nil k37 37 wC _ _) f1 (by simp) (by omega) HW1.out (by intro x hx;cases hx)).mono ?_
 rintro e w4 ⟨v1',rfl,hE,_,hb4,hf4⟩
 have o1:some w.heap.size≠(Value.slice a1 l1.length d1).ownBlock:=fun e=>by have:=(HV1.out.1 _ e.symm).2.1;omega
 have o1':some (w.heap.size+1)≠(Value.slice a1 l1.length d1).ownBlock:=fun e=>by have:=(HV1.out.1 _ e.symm).2.1;omega
 have on:∀ k:Nat,some k≠(Value.slice none ([]:List S37).length 0).ownBlock:=fun k e=>by simp [Value.ownBlock] at e
 have z4:=hb4.size
 have b4:w4.heap[w.heap.size]?=_:=(hf4 w.heap.size (by omega) o1 (on _)).trans bC
 have b4':w4.heap[w.heap.size+1]?=_:=(hf4 (w.heap.size+1) (by omega) o1' (on _)).trans ((hCs _ (by omega)).trans C3'.out)
 have hD4:=Kd.R_move HD.out (w1:=w4) (fun k hk=>by
  rw [hf4 k (by have:=hk.2.2.1;omega) (fun e=>by have h1:=(HV1.out.1 _ e.symm).2.2.1;have h2:=hk.2.1;omega) (on _),hCs k (by have:=hk.2.1;omega)])
 have hR4:=Kd.R_move HRw.out (w1:=w4) (fun k hk=>by
  rw [hf4 k (by have:=hk.2.2.1;omega) (fun e=>typed_ne (HV1.out.1 _ e.symm).2.2.2 hk.2.2.2) (on _),hCs k (by have:=hk.2.1;omega)])
 have hB4:Below w.heap.size w w4:=hBC.trans (hb4.mono (by omega))
 obtain ⟨a1',d1',e1'⟩:=Kd.R_slice hE
 subst e1'
 have hne1:∀ k,wB.heap.size≤k→k < w3.heap.size→some k≠(Value.slice a1' (fuseP l1 []).1.length d1').ownBlock:=fun k h1 h2 e=>by
  have:=((Kd.R_bound hE).1 k e.symm).2.1;omega
 have hne0:∀ k,wC.heap.size≤k→some k≠(Value.slice a0' (fuseP l0 l2).1.length d0').ownBlock:=fun k h1 e=>by
  have:=(HD.out.1 k e.symm).2.2.1;omega
 have HE:=Lib.hid (Kd.R_bound hE)
 have HD4:=Lib.hid hD4
 have HR4:=Lib.hid hR4
 have HB4:=Lib.hid hB4
 have C4:=Lib.hid b4
 have C4':=Lib.hid b4'
 have HN0:=Lib.hid hne0
 have HN1:=Lib.hid hne1
 have k4a:=bk_c b4 0
 have k4b:=bk_c b4 1
 have k4c:=bk_c b4 2
 have f4a:=bk_f b4 0
 have f4b:=bk_f b4 1
 have f4c:=bk_f b4 2
 have r4a:=bk_c b4' 0
 have r4b:=bk_c b4' 1
 have r4c:=bk_c b4' 2
 have g4a:=bk_f b4' 0
 have g4b:=bk_f b4' 1
 have g4c:=bk_f b4' 2
 simp only [List.getElem?_toArray,List.getElem?_cons_zero,List.getElem?_cons_succ] at k4a k4b k4c r4a r4b r4c
 have z4a:w.heap.size < w4.heap.size:=by omega
 have z4b:w.heap.size+1 < w4.heap.size:=by omega
 clear hE hD4 hR4 hB4 hf4 b4 b4' k3a k3b k3c f3a f3b f3c bC hCs hBC hb4 o1 o1' on hne0 hne1
 dsimp only
 go_wp2_with fail
 have hZ:∀ k,k≠w.heap.size→k≠w.heap.size+1→((((w4.setCell ⟨w.heap.size,1,none⟩ (.slice a1' (fuseP l1 []).1.length d1')).setCell ⟨w.heap.size+1,0,none⟩ (.slice a0' (fuseP l0 l2).1.length d0')).setCell ⟨w.heap.size+1,1,none⟩ (.slice a1' (fuseP l1 []).1.length d1')).setCell ⟨w.heap.size+1,2,none⟩ (.slice a2 l2.length d2)).heap[k]?=w4.heap[k]?:=fun k h1 h2=>by
  rw [Below.heap_setCell _ _ _ _ h2,Below.heap_setCell _ _ _ _ h2,Below.heap_setCell _ _ _ _ h2,Below.heap_setCell _ _ _ _ h1]
 refine bodyPost_ret (results_cell_row rfl _ _ (w.heap.size+1) 30 #[.slice a0' (fuseP l0 l2).1.length d0',.slice a1' (fuseP l1 []).1.length d1',.slice a2 l2.length d2] (0,0) _ rfl (blk_set (blk_set (blk_set ((Below.heap_setCell _ _ _ _ (by show w.heap.size+1≠w.heap.size;omega)).trans C4'.out) 0 _) 1 _) 2 _) Try.underlying30 rfl (by kernel_rfl)) rfl ?_
 refine ⟨_,_,_,rfl,?_,?_,?_,?_⟩
 ·exact Kd.R_lower (Kd.R_mono (Kd.R_move HD4.out (fun k hk=>hZ k (by have:=hk.2.1;omega) (by have:=hk.2.1;omega))) (fun k hk=>HN1.out k hk.2.1 hk.2.2.1)) (by omega)
 ·exact Kd.R_lower (Kd.R_mono (Kd.R_move HE.out (fun k hk=>hZ k (by have:=hk.2.1;omega) (by have:=hk.2.1;omega))) (fun k hk=>HN0.out k hk.2.1)) (by omega)
 ·exact Kd.R_lower (Kd.R_mono (Kd.R_move HR4.out (fun k hk=>hZ k (by have:=hk.2.1;omega) (by have:=hk.2.1;omega))) (fun _ _=>trivial)) (by omega)
 ·exact (((HB4.out.setCell (p:=⟨w.heap.size,1,none⟩) (Nat.le_refl _) _).setCell (p:=⟨w.heap.size+1,0,none⟩) (by show w.heap.size≤w.heap.size+1;omega) _).setCell (p:=⟨w.heap.size+1,1,none⟩) (by show w.heap.size≤w.heap.size+1;omega) _).setCell (p:=⟨w.heap.size+1,2,none⟩) (by show w.heap.size≤w.heap.size+1;omega) _
theorem Trim1_calls (x:S35) (w:World):Calls Try.prog 47 #[.agg #[.int .i64 x.f0,.int .i64 x.f1,.int .i64 x.f2,.int .i64 x.f3,.int .i64 x.f4]] w fun e w'=>e=.returned (.bool (x.f0 == 3))∧Below w.heap.size w w':=by
 go_enter Try.func47,Try.ntmps47
 go_wp2
 go_ret
 exact ⟨rfl,(Below.refl _ _).alloc (Nat.le_refl _) _⟩
def jumpAt (l:List S35):Int:=match l.findIdx? (fun x=>x.f0 == 3) with
 | some i=>i
 | none=>-1
theorem findIdx_take {l:List S35} {k:Nat} (hk:k < l.length) (h:∀ i,(hi:i < k)→(l[i]'(by omega)).f0≠3) (h3:(l[k]).f0=3):jumpAt l=k:=by
 unfold jumpAt
 have:l.findIdx? (fun x=>x.f0 == 3)=some k:=by
  rw [List.findIdx?_eq_some_iff_getElem]
  refine ⟨hk,by simp [h3],fun j hj=>?_⟩
  simpa using h j hj
 rw [this]
theorem findIdx_all {l:List S35} (h:∀ i,(hi:i < l.length)→(l[i]).f0≠3):jumpAt l=-1:=by
 unfold jumpAt
 have:l.findIdx? (fun x=>x.f0 == 3)=none:=by
  rw [List.findIdx?_eq_none_iff]
  intro x hx
  obtain ⟨i,hi,rfl⟩:=List.mem_iff_getElem.1 hx
  simpa using h i hi
 rw [this]
set_option maxRecDepth 100000 in
set_option maxHeartbeats 1000000 in
theorem IndexFunc_calls (A0:Option Addr) (c0:Nat) (l0:List S35) (w:World) (hr0:Kd.C k35 w A0 l0.length l0) :
  Calls Try.prog 62 #[.slice A0 l0.length c0,.func (.func 47) #[] #[]] w fun e w'=>e=.returned (.int .i64 (jumpAt l0))∧Below w.heap.size w w':=by
 have hmax:=Kd.C_max hr0
 go_enter Try.func62,Try.ntmps62
 have HR0:=Lib.hid hr0
 clear hr0
 go_wp2_with fail
 go_loopw [8] (fun s8 wl=>∃ k:Nat,k≤l0.length∧s8=.int .i64 k∧Hid (Below w.heap.size w wl)∧Hid (∀ i,(hi:i < k)→∀ hl:i < l0.length,(l0[i]).f0≠3)) (fun s8 _=>l0.length - (intOf s8).toNat)
 case atStart=>exact ⟨0,Nat.zero_le _,rfl,Below.refl _ _,fun i hi=>absurd hi (Nat.not_lt_zero _)⟩
 case round =>
  obtain ⟨k,hk,rfl,HB,HF⟩:=hrel
  by_cases hlt:k < l0.length
  ·have hltz:(k:Int) < (l0.length:Int):=by omega
   obtain ⟨ad,eA,q0,q1,q2,q3,q4⟩:=at_T35 (Kd.C_below HR0.out HB.out) (k:Int) (by omega) (by omega)
   subst eA
   rw [rdS hlt] at q0 q1 q2 q3 q4
   simp only [Int.toNat_natCast] at q0 q1 q2 q3 q4
   go_wp2_with fail
   refine (Trim1_calls l0[k] wr).mono ?_
   rintro e w1 ⟨rfl,hb⟩
   have HB1:=Lib.hid (HB.out.trans (hb.mono HB.out.size))
   clear hb
   dsimp only
   by_cases h3:(l0[k]).f0=3
   ·have t3:((l0[k]).f0 == 3)=true:=by simp [h3]
    rw [t3]
    have HJ:=Lib.hid (findIdx_take hlt (fun i hi=>HF.out i hi (by omega)) h3)
    clear h3 t3
    go_wp2_with fail
    go_ret
    exact ⟨by rw [HJ.out];rfl,HB1.out⟩
   ·have t3:((l0[k]).f0 == 3)=false:=by simp [h3]
    rw [t3]
    have H3:=Lib.hid h3
    clear h3 t3
    go_wp2_with fail
    refine ⟨⟨k+1,by omega,by go_num,HB1.out,fun i hi hl=>?_⟩,by simp [intOf];omega⟩
    by_cases hik:i=k
    ·subst hik;exact H3.out
    ·exact HF.out i (by omega) hl
  ·have hkn:k=l0.length:=by omega
   subst hkn
   have HJ:=Lib.hid (findIdx_all (l:=l0) (fun i hi=>HF.out i hi hi))
   go_wp2_with fail
   go_ret
   exact ⟨by rw [HJ.out];rfl,HB.out⟩
theorem ContainsFunc_calls (A0:Option Addr) (c0:Nat) (l0:List S35) (w:World) (hr0:Kd.C k35 w A0 l0.length l0) :
  Calls Try.prog 46 #[.slice A0 l0.length c0,.func (.func 47) #[] #[]] w fun e w'=>e=.returned (.bool (decide (0≤jumpAt l0)))∧Below w.heap.size w w':=by
 go_enter Try.func46,Try.ntmps46
 have HR0:=Lib.hid hr0
 clear hr0
 go_wp2_with fail
 refine (IndexFunc_calls A0 c0 l0 w HR0.out).mono ?_
 rintro e w1 ⟨rfl,hb⟩
 have HB:=Lib.hid hb
 clear hb
 dsimp only
 go_wp2_with fail
 go_ret
 exact ⟨rfl,HB.out⟩
end Go.Proofs.Ytedghbjmhcgilaa.A
end
