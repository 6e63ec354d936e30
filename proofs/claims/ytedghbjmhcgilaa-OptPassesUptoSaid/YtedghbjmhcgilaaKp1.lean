import Derived.Lib.Hide
import Derived.LoopIn
import Derived.LoopNIn
import Derived.Outline
import Derived.OwnWalkIn
import Derived.RangeFuncBound
import Derived.RangeFuncCalls
import Derived.RangeFuncLeaves
import Derived.RangeFuncNested
import Derived.Shelf.Abstract
import Derived.Shelf.RegionOpen
import Derived.TacticsInMore
import Derived.WalkKit
import Derived.Test.YtedghbjmhcgilaaProg
set_option linter.unusedVariables false
set_option linter.unusedSimpArgs false
section
namespace Go.Proofs.Ytedghbjmhcgilaa.A
open Go.RowKit Go.Shelf
attribute [local go_sem] Oper.semAt_some
structure Aside (p:Prop):Prop where mk :: (out:p)
def namedOff (op:Int):Option Nat:=if op=3 then some 1 else if op=4 then some 1 else if op=2 then some 2 else if op=16 then some 2 else none
def namedAt (b o:Nat) (op:Int):Value:=match namedOff op with
 | some k=>.pointer (some ⟨b,o+k,none⟩)
 | none=>.pointer none
set_option maxHeartbeats 400000 in
theorem named_calls (b o:Nat) (op:Int) (w:World) (h0:w.cell? ⟨b,o,none⟩=some (.int .i64 op)) :
  Calls Try.prog 60 #[.pointer (some ⟨b,o,none⟩)] w fun e w'=>e=.returned (namedAt b o op)∧w=w':=by
 unfold namedAt namedOff
 by_cases h3:op=3
 ·subst h3
  go_enter Try.func60,Try.ntmps60
  go_wp2
  go_ret
  exact ⟨rfl,rfl⟩
 by_cases h4:op=4
 ·subst h4
  go_enter Try.func60,Try.ntmps60
  go_wp2
  go_ret
  exact ⟨rfl,rfl⟩
 by_cases h2:op=2
 ·subst h2
  go_enter Try.func60,Try.ntmps60
  go_wp2
  go_ret
  exact ⟨rfl,rfl⟩
 by_cases h16:op=16
 ·subst h16
  go_enter Try.func60,Try.ntmps60
  go_wp2
  go_ret
  exact ⟨rfl,rfl⟩
 have b3:(op == 3)=false:=beq_eq_false_iff_ne.mpr h3
 have b4:(op == 4)=false:=beq_eq_false_iff_ne.mpr h4
 have b2:(op == 2)=false:=beq_eq_false_iff_ne.mpr h2
 have b16:(op == 16)=false:=beq_eq_false_iff_ne.mpr h16
 rw [if_neg h3,if_neg h4,if_neg h2,if_neg h16]
 clear h3 h4 h2 h16
 go_enter Try.func60,Try.ntmps60
 go_wp2
 go_ret
 exact ⟨rfl,rfl⟩
def stepPlaces (bs os:Nat) (ops:List Int) (k:Nat):List (Int × Addr):=(List.range k).flatMap fun i=>match namedOff (ops.getD i 0) with
 | some j=>[(ops.getD i 0,⟨bs,os+i*5+j,none⟩)]
 | none=>[]
def rowPlaces (br orr:Nat) (k:Nat):List (Int × Addr):=(List.range k).map fun i=>(3,⟨br,orr+i*2+1,none⟩)
theorem stepPlaces_succ (bs os:Nat) (ops:List Int) (k:Nat):stepPlaces bs os ops (k+1)=stepPlaces bs os ops k ++ (match namedOff (ops.getD k 0) with
 | some j=>[(ops.getD k 0,⟨bs,os+k*5+j,none⟩)]
 | none=>[]):=by
 unfold stepPlaces
 rw [List.range_succ,List.flatMap_append]
 simp
theorem stepPlaces_len (bs os:Nat) (ops:List Int) (k:Nat):(stepPlaces bs os ops k).length≤k:=by
 induction k with
 | zero=>simp [stepPlaces]
 | succ k ih =>
  rw [stepPlaces_succ,List.length_append]
  cases namedOff (ops.getD k 0) <;> simp <;> omega
theorem rowPlaces_succ (br orr:Nat) (k:Nat):rowPlaces br orr (k+1)=rowPlaces br orr k ++ [(3,⟨br,orr+k*2+1,none⟩)]:=by
 unfold rowPlaces
 rw [List.range_succ,List.map_append]
 rfl
def allPlaces (bs os:Nat) (ops:List Int) (br orr m:Nat):List (Int × Addr):=stepPlaces bs os ops ops.length ++ rowPlaces br orr m
abbrev PlaceOf (bs os:Nat) (ops:List Int) (br orr m:Nat):Type:={ x:Int × Addr // x ∈ allPlaces bs os ops br orr m }
def encsP {bs os:Nat} {ops:List Int} {br orr m:Nat} (x:PlaceOf bs os ops br orr m):Array Value:=#[.int .i64 x.1.1,.pointer (some x.1.2)]
theorem mem_stepPlaces {bs os:Nat} {ops:List Int} {k:Nat} {x:Int × Addr}:x ∈ stepPlaces bs os ops k↔∃ i j,i < k∧namedOff (ops.getD i 0)=some j∧x=(ops.getD i 0,⟨bs,os+i*5+j,none⟩):=by
 unfold stepPlaces
 rw [List.mem_flatMap]
 constructor
 ·rintro ⟨i,hi,hx⟩
  cases hj:namedOff (ops.getD i 0) with
  | none=>rw [hj] at hx;simp at hx
  | some j=>rw [hj] at hx;exact ⟨i,j,List.mem_range.1 hi,hj,by simpa using hx⟩
 ·rintro ⟨i,j,hi,hj,hx⟩
  refine ⟨i,List.mem_range.2 hi,?_⟩
  rw [hj]
  simpa using hx
theorem mem_rowPlaces {br orr k:Nat} {x:Int × Addr}:x ∈ rowPlaces br orr k↔∃ i,i < k∧x=(3,⟨br,orr+i*2+1,none⟩):=by
 unfold rowPlaces
 rw [List.mem_map]
 constructor
 ·rintro ⟨i,hi,hx⟩
  exact ⟨i,List.mem_range.1 hi,hx.symm⟩
 ·rintro ⟨i,hi,hx⟩
  exact ⟨i,List.mem_range.2 hi,hx.symm⟩
def KpF (Fix:Addr→Prop) (A B:World):Prop:=∀ p v,Fix p→A.cell? p=some v→B.cell? p=some v
theorem KpF.refl {Fix:Addr→Prop} (A:World):KpF Fix A A:=fun _ _ _ h=>h
theorem KpF.trans {Fix:Addr→Prop} {A B C:World} (h:KpF Fix A B) (k:KpF Fix B C):KpF Fix A C:=fun p v f x=>k p v f (h p v f x)
def FixI (B1 B2 bs os n:Nat) (p:Addr):Prop:=p=⟨B1,0,none⟩∨p=⟨B2,0,none⟩∨∃ i,i < n∧p=⟨bs,os+i*5,none⟩
set_option maxHeartbeats 1600000 in
theorem places_stops (n:Nat) (hn:2≤n) (B1 B2 bs os br orr:Nat) (ops:List Int) (c1 m c2:Nat) (A1 A2:Option Addr) (w:World)
  (hA1:0 < ops.length→A1=some ⟨bs,os,none⟩) (hA2:0 < m→A2=some ⟨br,orr,none⟩) (hl1:ops.length≤9223372036854775807) (hl2:m≤9223372036854775807)
  (hB1:B1 < w.heap.size) (hB2:B2 < w.heap.size) (hbs:0 < ops.length→bs < w.heap.size)
  (h1:w.cell? ⟨B1,0,none⟩=some (.slice A1 ops.length c1)) (h2:w.cell? ⟨B2,0,none⟩=some (.slice A2 m c2))
  (hop:∀ i,i < ops.length→w.cell? ⟨bs,os+i*5,none⟩=some (.int .i64 (ops.getD i 0))) :
  SeqStopsK Fence.wide n Try.prog 59 #[.pointer (some ⟨B1,0,none⟩),.pointer (some ⟨B2,0,none⟩)] (encsP (bs:=bs) (os:=os) (ops:=ops) (br:=br) (orr:=orr) (m:=m)) (KpF (FixI B1 B2 bs os ops.length))
   (fun xs=>xs.map (·.1)=allPlaces bs os ops br orr m) (fun _=>True) (ops.length+m) w:=by
 intro l J Jx W hW hJ hJx hY h0
 have hb1:W.cell? ⟨B1,0,none⟩=some (.slice A1 ops.length c1):=(hW.cell (p:=⟨B1,0,none⟩) hB1).trans h1
 have hb2:W.cell? ⟨B2,0,none⟩=some (.slice A2 m c2):=(hW.cell (p:=⟨B2,0,none⟩) hB2).trans h2
 have hbo:∀ i,i < ops.length→W.cell? ⟨bs,os+i*5,none⟩=some (.int .i64 (ops.getD i 0)):=fun i hi=>(hW.cell (p:=⟨bs,os+i*5,none⟩) (hbs (by omega))).trans (hop i hi)
 clear h1 h2 hop hW hJ hJx
 refine callsIn_of_wp Try.func59 rfl trivial ?_ rfl
 simp only [Try.ntmps59,List.size_toArray,List.length_cons,List.length_nil,Nat.reduceAdd,Nat.reduceSub,Array.replicate_succ,Array.replicate_zero,List.push_toArray,List.append_toArray,List.nil_append,List.cons_append]
 have HO:=Lib.hid hbo
 have HB2:=Lib.hid hb2
 have HY:=Lib.hid hY
 clear hbo hb2 hY
 gi_wp2
 gi_loopw [9] (fun p wr=>∃ (k:Nat) (pre:List (PlaceOf bs os ops br orr m)),k≤ops.length∧p=.int .i64 k∧Aside (pre.map (·.1)=stepPlaces bs os ops k)∧Aside (J pre wr)∧Aside (KpF (FixI B1 B2 bs os ops.length) W wr)) (fun p _=>ops.length - (intOf p).toNat)
 case atStart=>exact ⟨0,[],Nat.zero_le _,rfl,⟨by simp [stepPlaces]⟩,⟨h0⟩,⟨KpF.refl _⟩⟩
 case round =>
  obtain ⟨k,pre,hk,rfl,HP,HJ,HK⟩:=hrel
  by_cases hlt:k < ops.length
  ·have hltz:(k:Int) < (ops.length:Int):=by omega
   have e1:wr.cell? ⟨B1,0,none⟩=some (.slice A1 ops.length c1):=HK.out _ _ (Or.inl rfl) hb1
   have e2:wr.cell? ⟨bs,os+k*5,none⟩=some (.int .i64 (ops.getD k 0)):=HK.out _ _ (Or.inr (Or.inr ⟨k,hlt,rfl⟩)) (HO.out k hlt)
   have eA:=hA1 (by omega)
   subst eA
   clear hb1
   have HS:=Aside.mk (stepPlaces_succ bs os ops k)
   have HM:=Aside.mk (fun j h=>List.mem_append_left (rowPlaces br orr m) ((mem_stepPlaces (bs:=bs) (os:=os) (ops:=ops) (k:=ops.length) (x:=(ops.getD k 0,⟨bs,os+k*5+j,none⟩))).2 ⟨k,j,hlt,h,rfl⟩))
   generalize ops.getD k 0=op at e2 HS HM
   have hn1:1≤n:=by omega
   cases hno:namedOff op with
   | none =>
    have hna:namedAt bs (os+k*5) op=.pointer none:=by unfold namedAt;rw [hno]
    rw [hno] at HS
    clear hno HM
    gi_wp2_with (refine ⟨trivial,?_⟩;gi_at_call 60;refine (callsIn_wide.2 (named_calls bs (os+k*5) op _ e2)).mono ?_;rw [hna];rintro e w' ⟨rfl,rfl⟩)
    refine ⟨fun _ _=>trivial,?_⟩
    gi_wp2
    go_roundw
    case rel=>exact ⟨k+1,pre,by omega,by go_num,⟨by rw [HS.out,List.append_nil];exact HP.out⟩,HJ,HK⟩
    case measure=>simp [intOf];omega
   | some j =>
    have hna:namedAt bs (os+k*5) op=.pointer (some ⟨bs,os+k*5+j,none⟩):=by unfold namedAt;rw [hno]
    have hmem:=HM.out j hno
    rw [hno] at HS
    clear hno HM
    have hlen:pre.length < ops.length+m:=by have:=stepPlaces_len bs os ops k;rw [← HP.out,List.length_map] at this;omega
    obtain ⟨fn,tmps,assign,body,hy,hR⟩:=HY.out pre ⟨(op,⟨bs,os+k*5+j,none⟩),hmem⟩ wr HJ.out hlen
    have HR:=Lib.hid hR
    clear hR
    dsimp only [encsP] at hy
    gi_wp2_with (refine ⟨trivial,?_⟩;gi_at_call 60;refine (callsIn_wide.2 (named_calls bs (os+k*5) op _ e2)).mono ?_;rw [hna];rintro e w' ⟨rfl,rfl⟩)
    refine HR.out.mono ?_
    rintro e W3 (⟨rfl,hJ3,hk3⟩ | ⟨rfl,hJx3⟩)
    ·have HJ3:=Aside.mk hJ3
     have HK3:=Aside.mk hk3
     clear hJ3 hk3
     gi_wp2
     go_roundw
     case rel=>exact ⟨k+1,_,by omega,by go_num,⟨by rw [HS.out,List.map_append,HP.out];rfl⟩,⟨HJ3.out⟩,⟨HK.out.trans HK3.out⟩⟩
     case measure=>simp [intOf];omega
    ·gi_wp2
     refine bodyPost_ret (results_none rfl _ _ _) rfl ?_
     exact ⟨⟨_,rfl⟩,.inr ⟨_,trivial,hJx3⟩⟩
  ·have hkn:k=ops.length:=by omega
   subst hkn
   have e2:wr.cell? ⟨B2,0,none⟩=some (.slice A2 m c2):=HK.out _ _ (Or.inr (Or.inl rfl)) HB2.out
   clear hb1
   gi_wp2
   gi_loopw [32] (fun p wr=>∃ (k:Nat) (pre:List (PlaceOf bs os ops br orr m)),k≤m∧p=.int .i64 k∧Aside (pre.map (·.1)=stepPlaces bs os ops ops.length ++ rowPlaces br orr k)∧Aside (J pre wr)∧Aside (KpF (FixI B1 B2 bs os ops.length) W wr)) (fun p _=>m - (intOf p).toNat)
   case atStart=>exact ⟨0,pre,Nat.zero_le _,rfl,⟨by simp only [rowPlaces,List.range_zero,List.map_nil,List.append_nil];exact HP.out⟩,HJ,HK⟩
   case round =>
    clear e2 HK HJ HP
    obtain ⟨k,pre,hk,rfl,HP,HJ,HK⟩:=hrel
    by_cases hlt:k < m
    ·have hltz:(k:Int) < (m:Int):=by omega
     have e2:wr.cell? ⟨B2,0,none⟩=some (.slice A2 m c2):=HK.out _ _ (Or.inr (Or.inl rfl)) HB2.out
     have eA:=hA2 (by omega)
     subst eA
     have hn1:1≤n:=by omega
     have HS:=Aside.mk (rowPlaces_succ br orr k)
     have hlen:pre.length < ops.length+m:=by
      have:=stepPlaces_len bs os ops ops.length
      have h2:=congrArg List.length HP.out
      rw [List.length_map,List.length_append] at h2
      simp only [rowPlaces,List.length_map,List.length_range] at h2
      omega
     have hmem:((3:Int),(⟨br,orr+k*2+1,none⟩:Addr)) ∈ allPlaces bs os ops br orr m:=List.mem_append_right _ (mem_rowPlaces.2 ⟨k,hlt,rfl⟩)
     obtain ⟨fn,tmps,assign,body,hy,hR⟩:=HY.out pre ⟨(3,⟨br,orr+k*2+1,none⟩),hmem⟩ wr HJ.out hlen
     have HR:=Lib.hid hR
     clear hR
     dsimp only [encsP] at hy
     gi_wp2
     refine HR.out.mono ?_
     rintro e W3 (⟨rfl,hJ3,hk3⟩ | ⟨rfl,hJx3⟩)
     ·have HJ3:=Aside.mk hJ3
      have HK3:=Aside.mk hk3
      clear hJ3 hk3
      gi_wp2
      go_roundw
      case rel=>exact ⟨k+1,_,by omega,by go_num,⟨by rw [HS.out,List.map_append,HP.out,← List.append_assoc];rfl⟩,⟨HJ3.out⟩,⟨HK.out.trans HK3.out⟩⟩
      case measure=>simp [intOf];omega
     ·gi_wp2
      refine bodyPost_ret (results_none rfl _ _ _) rfl ?_
      exact ⟨⟨_,rfl⟩,.inr ⟨_,trivial,hJx3⟩⟩
    ·have hkn:k=m:=by omega
     subst hkn
     gi_wp2
     go_end0
     exact ⟨⟨_,rfl⟩,.inl ⟨_,HP.out,HJ.out⟩⟩
end Go.Proofs.Ytedghbjmhcgilaa.A
end
