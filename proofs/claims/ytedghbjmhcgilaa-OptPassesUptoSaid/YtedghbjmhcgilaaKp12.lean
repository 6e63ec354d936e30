import Derived.BigQuiet
import Derived.RangeFuncWrites
import Derived.Sort.QuietIn
import Derived.RangeFuncCalls
import Derived.Test.YtedghbjmhcgilaaKp1
import Derived.Test.YtedghbjmhcgilaaKp5
set_option linter.unusedVariables false
set_option linter.unusedSimpArgs false
section
namespace Go.Proofs.Ytedghbjmhcgilaa.A
open Go.RowKit Go.Shelf Go.Proofs.YtedghbjmhcgilaaW.PrintWords Go.Proofs.YtedghbjmhcgilaaW.PrintLast Go.Proofs.YtedghbjmhcgilaaW.PrintMore
open Go.Proofs.Ytedghbjmhcgilaa.POpt
theorem setCell_self {w:World} {p:Addr} {v:Value} (h:w.cell? p=some v):w.setCell p v=w:=by
 obtain ⟨b,o,s⟩:=p
 have hh:(w.setCell ⟨b,o,s⟩ v).heap=w.heap:=by
  unfold World.cell? at h
  unfold World.setCell
  apply Array.ext_getElem?
  intro i
  rw [Array.getElem?_modify]
  split
  ·rename_i hi
   subst hi
   cases hb:w.heap[b]? with
   | none=>rfl
   | some ob =>
    cases ob with
    | cells c e fr =>
     simp only [hb] at h
     by_cases hs:s.isSome=true
     ·rw [if_pos hs] at h;cases h
     ·rw [if_neg hs] at h
      simp only [Option.map_some,if_neg hs]
      have hset:c.setIfInBounds o v=c:=by
       apply Array.ext_getElem?
       intro j
       rw [Array.getElem?_setIfInBounds]
       split
       ·rename_i hj;subst hj
        obtain ⟨hlo,hv⟩:=Array.getElem?_eq_some_iff.1 h
        rw [if_pos hlo,h]
       ·rfl
      rw [hset]
    | _=>simp [hb] at h
  ·rfl
 have he:w.setCell ⟨b,o,s⟩ v={ w with heap:=(w.setCell ⟨b,o,s⟩ v).heap }:=rfl
 rw [he,hh]
theorem setCell_twice (w:World) (p:Addr) (u v:Value):(w.setCell p u).setCell p v=w.setCell p v:=by
 obtain ⟨b,o,s⟩:=p
 have hh:((w.setCell ⟨b,o,s⟩ u).setCell ⟨b,o,s⟩ v).heap=(w.setCell ⟨b,o,s⟩ v).heap:=by
  unfold World.setCell
  simp only
  apply Array.ext_getElem?
  intro i
  simp only [Array.getElem?_modify]
  split
  ·cases w.heap[i]? with
   | none=>rfl
   | some ob =>
    cases ob with
    | cells c e fr =>
     by_cases hs:s.isSome=true
     ·simp [hs]
     ·simp [hs]
    | _=>rfl
  ·rfl
 have he:(w.setCell ⟨b,o,s⟩ u).setCell ⟨b,o,s⟩ v={ w.setCell ⟨b,o,s⟩ v with heap:=((w.setCell ⟨b,o,s⟩ u).setCell ⟨b,o,s⟩ v).heap }:=rfl
 rw [he,hh]
def getF (x:S35) (j:Nat):Int:=if j=1 then x.f1 else x.f2
def setF (x:S35) (j:Nat) (v:Int):S35:=if j=1 then { x with f1:=v } else { x with f2:=v }
def hop (old:List S35) (op c:Int):Option Int :=
 if c < 0 then none else if (old.length:Int)≤c then none else if (rdQ old c).f0≠4 then none else if op≠4∧(rdQ old c).f1=0 then none else some (rdQ old c).f1
def it (old:List S35) (op:Int):Nat→Int→Int
 | 0,c=>c
 | k+1,c=>(hop old op (it old op k c)).getD (it old op k c)
theorem it_stop {old:List S35} {op c:Int} {k:Nat} (h:hop old op (it old op k c)=none) (m:Nat):it old op (k+m) c=it old op k c:=by
 induction m with
 | zero=>rfl
 | succ m ih=>rw [← Nat.add_assoc,it,ih,h];rfl
def thr (old:List S35) (op c:Int):Int:=it old op old.length c
theorem namedOff_12 {op:Int} {j:Nat} (h:namedOff op=some j):j=1∨j=2:=by
 unfold namedOff at h
 repeat' split at h
 all_goals first | (injection h with h;omega) | cases h
def updS (φ:Int→Int→Int) (bs:Nat) (L:List S35) (x:Int × Addr):List S35 :=
 if x.2.block=bs then L.set (x.2.off / 5) (setF (L.getD (x.2.off / 5) z35) (x.2.off % 5) (φ x.1 (getF (L.getD (x.2.off / 5) z35) (x.2.off % 5)))) else L
def updR (φ:Int→Int→Int) (br:Nat) (L:List S37) (x:Int × Addr):List S37 :=
 if x.2.block=br then L.set (x.2.off / 2) { (L.getD (x.2.off / 2) z37) with f1:=φ x.1 (L.getD (x.2.off / 2) z37).f1 } else L
theorem set35 {W:World} {base:Nat} {ok:Nat→Prop} {g n cap:Nat} {xs:List S35} (HO:k35.R 35 W base ok (.slice (some ⟨g,0,none⟩) n cap) xs) (i j:Nat) (hi:i < n) (hj:j=1∨j=2) (v:Int) :
  k35.R 35 (W.setCell ⟨g,i*5+j,none⟩ (.int .i64 v)) base ok (.slice (some ⟨g,0,none⟩) n cap) (xs.set i (setF (xs.getD i z35) j v)):=by
 obtain ⟨Ax,cx,he,hl,hC⟩:=Kd.R_reads HO
 injection he with e1 e2 e3
 subst e1;subst e3
 have hn:n=xs.length:=e2
 obtain ⟨ad,c,e,hlen,hK,hc0⟩:=Kd.C_get hC z35 (i:Int) (by omega) (by omega)
 injection e with e
 subst e
 simp only [Int.toNat_natCast] at hK hc0
 have hcs:=k35_open hK
 have h2:=Kd.R_seg (W:=W) HO (i:Int) (j:=j) (x':=setF (xs.getD i z35) j v) (seg:=[.int .i64 v]) (c:=c) (okp:=fun _=>False) (by omega) (by omega) (by rw [hcs];rfl)
  (fun q u hu=>by
   have h9:=hc0 q u hu
   rw [Addr.add_lit,Nat.zero_add] at h9
   exact h9)
  (by show j+1≤5;omega) (by
   rw [hcs]
   rcases hj with rfl | rfl
   ·exact k35_mkM _ _ _ (setF (xs.getD i z35) 1 v)
   ·exact k35_mkM _ _ _ (setF (xs.getD i z35) 2 v)) (fun _ h=>h.elim)
 have h3:=h2.1
 simp only [Int.toNat_natCast] at h3
 have e:k35.sz=5:=rfl
 rw [e] at h3
 exact h3
theorem set37 {W:World} {base:Nat} {ok:Nat→Prop} {g n cap:Nat} {xs:List S37} (HO:k37.R 37 W base ok (.slice (some ⟨g,0,none⟩) n cap) xs) (i:Nat) (hi:i < n) (v:Int) :
  k37.R 37 (W.setCell ⟨g,i*2+1,none⟩ (.int .i64 v)) base ok (.slice (some ⟨g,0,none⟩) n cap) (xs.set i { (xs.getD i z37) with f1:=v }):=by
 obtain ⟨Ax,cx,he,hl,hC⟩:=Kd.R_reads HO
 injection he with e1 e2 e3
 subst e1;subst e3
 have hn:n=xs.length:=e2
 obtain ⟨ad,c,e,hlen,hK,hc0⟩:=Kd.C_get hC z37 (i:Int) (by omega) (by omega)
 injection e with e
 subst e
 simp only [Int.toNat_natCast] at hK hc0
 have hcs:=k37_open hK
 have h2:=Kd.R_seg (W:=W) HO (i:Int) (j:=1) (x':={ (xs.getD i z37) with f1:=v }) (seg:=[.int .i64 v]) (c:=c) (okp:=fun _=>False) (by omega) (by omega) (by rw [hcs];rfl)
  (fun q u hu=>by
   have h9:=hc0 q u hu
   rw [Addr.add_lit,Nat.zero_add] at h9
   exact h9)
  (by show 1+1≤2;omega) (by
   rw [hcs]
   exact k37_mkM _ _ _ { (xs.getD i z37) with f1:=v }) (fun _ h=>h.elim)
 have h3:=h2.1
 simp only [Int.toNat_natCast] at h3
 have e:k37.sz=2:=rfl
 rw [e] at h3
 exact h3
theorem R_shape {α:Type} {d:Kd α} {e:Nat} {W:World} {base:Nat} {ok:Nat→Prop} {A:Option Addr} {n c:Nat} {xs:List α} (h:d.R e W base ok (.slice A n c) xs) (hn:0 < n) (hs:0 < d.sz) :
  ∃ g cells,A=some ⟨g,0,none⟩∧base≤g∧g < W.heap.size∧ok g∧W.heap[g]?=some (.cells cells e (0,0))∧n=xs.length∧n≤c:=by
 obtain ⟨A',c',he,hl,hC⟩:=Kd.R_reads h
 injection he with e1 e2 e3
 obtain ⟨hok,inner,ho,hr⟩:=h
 rcases ho.2 with ⟨hv,h0⟩ | ⟨g,cap,cur,hv,hg,hh,hnc,hcm,hcs,htk⟩
 ·injection hv with _ h1 _;omega
 ·injection hv with ha hb hc
  subst ha
  exact ⟨g,cur,rfl,hg,(Array.getElem?_eq_some_iff.1 hh).1,hok g (by simp [Value.ownBlock]),hh,e2,by omega⟩
theorem KpF_put {Fix:Addr→Prop} {N:Nat} (W:World) (l:Nat) (o o':Obj) (_:N≤l) (hl:W.heap[l]?=some o) (hc:o.isCells=false) (_:o.isWalk=false):KpF Fix W (W.putObj l o'):=by
 intro p v _ h
 have hne:p.block≠l:=by
  rintro rfl
  unfold World.cell? at h
  rw [hl] at h
  cases o <;> simp_all [Obj.isCells]
 have hg:=(grownBy_putObj' W l o').block p.block (by
  unfold World.cell? at h
  cases hb:W.heap[p.block]? with
  | none=>simp [hb] at h
  | some ob=>exact (Array.getElem?_eq_some_iff.1 hb).1) (fun e=>hne (by injection e))
 exact (World.cell?_of_block hg).trans h
theorem KpF_of_cells {Fix:Addr→Prop} {A B:World} (h:∀ p,Fix p→B.cell? p=A.cell? p):KpF Fix A B:=fun p v f e=>(h p f).trans e
theorem keeps_set (W:World) (p:Addr) (v:Value) (q:Nat):KeepsOthers W ((W.setCell p v).drewN q):=(KeepsOthers.setCell W p v).trans ⟨Nat.le_refl _,fun _ _ h _=>h⟩
theorem set_set_drew (W:World) (p:Addr) (u v:Value) (q n1 n2:Nat):((((W.setCell p u).drewN q).drewN n1).setCell p v).drewN n2=(W.setCell p v).drewN (q+n1+n2):=by
 have h1:(((W.setCell p u).drewN q).drewN n1).setCell p v=((W.setCell p u).setCell p v).drewN (q+n1):=by rw [World.drewN_drewN];rfl
 rw [h1,setCell_twice,World.drewN_drewN]
structure PInv (φ:Int→Int→Int) (base:Nat) (w w3:World) (gS gR bV:Nat) (okS okR:Nat→Prop) (vS vR:Value) (l0:List S35) (l2:List S37) (pre:List (Int × Addr)) (W:World):Prop where
 size:w3.heap.size≤W.heap.size
 below:Below base w W
 same:∀ k,k < w3.heap.size→k≠gS→k≠gR→W.heap[k]?=w3.heap[k]?
 steps:k35.R 35 W bV okS vS (pre.foldl (updS φ gS) l0)
 rows:k37.R 37 W bV okR vR (pre.foldl (updR φ gR) l2)
section
variable {φ:Int→Int→Int} {base:Nat} {w w3:World} {gS gR bV:Nat} {okS okR:Nat→Prop} {vS vR:Value} {l0:List S35} {l2:List S37} {pre:List (Int × Addr)} {W:World}
theorem PInv.move (h:PInv φ base w w3 gS gR bV okS okR vS vR l0 l2 pre W) (hoS:∀ k,okS k→k < w3.heap.size) (hoR:∀ k,okR k→k < w3.heap.size) {W':World} {row:Option Nat} (hg:W.grownBy W' row) (hr:∀ r,row=some r→w3.heap.size≤r) (hw:base≤w3.heap.size) :
  PInv φ base w w3 gS gR bV okS okR vS vR l0 l2 pre W':=by
 have hm:∀ k,k < w3.heap.size→W'.heap[k]?=W.heap[k]?:=fun k hk=>hg.block k (Nat.lt_of_lt_of_le hk h.size) (fun e=>by have:=hr k e.symm;omega)
 exact ⟨Nat.le_trans h.size hg.size,h.below.grown hg (Nat.le_trans hw h.size) (fun k e=>by have:=hr k e;omega),fun k hk h1 h2=>(hm k hk).trans (h.same k hk h1 h2),Kd.R_move h.steps (fun k hk=>hm k (hoS k hk)),Kd.R_move h.rows (fun k hk=>hm k (hoR k hk))⟩
theorem foldS_len (φ:Int→Int→Int) (gS:Nat) (pre:List (Int × Addr)):∀ l:List S35,(pre.foldl (updS φ gS) l).length=l.length:=by
 induction pre with
 | nil=>intro l;rfl
 | cons x pre ih=>intro l;rw [List.foldl_cons,ih];unfold updS;split <;> simp
theorem foldR_len (φ:Int→Int→Int) (gR:Nat) (pre:List (Int × Addr)):∀ l:List S37,(pre.foldl (updR φ gR) l).length=l.length:=by
 induction pre with
 | nil=>intro l;rfl
 | cons x pre ih=>intro l;rw [List.foldl_cons,ih];unfold updR;split <;> simp
theorem PInv.cell {A0 A2:Option Addr} {n d0 m d2:Nat} {ops:List Int} (h:PInv φ base w w3 gS gR bV okS okR (.slice A0 n d0) (.slice A2 m d2) l0 l2 pre W) (hA0:0 < n→A0=some ⟨gS,0,none⟩) (hA2:0 < m→A2=some ⟨gR,0,none⟩) (hn:n=l0.length) (hm:m=l2.length) (hops:ops.length=n)
  {x:Int × Addr} (hx:x ∈ allPlaces gS 0 ops gR 0 m):(∃ i j,i < n∧(j=1∨j=2)∧x.2=⟨gS,i*5+j,none⟩∧W.cell? x.2=some (.int .i64 (getF ((pre.foldl (updS φ gS) l0).getD i z35) j))∧W.frozen? x.2=false) ∨
   (∃ i,i < m∧x.2=⟨gR,i*2+1,none⟩∧W.cell? x.2=some (.int .i64 ((pre.foldl (updR φ gR) l2).getD i z37).f1)∧W.frozen? x.2=false):=by
 rcases List.mem_append.1 hx with hx | hx
 ·obtain ⟨i,j,hi,hj,rfl⟩:=mem_stepPlaces.1 hx
  rw [hops] at hi
  have h12:=namedOff_12 hj
  left
  obtain ⟨g,cells,hA,hbg,hgl,_,hh,_,_⟩:=R_shape h.steps (by omega) (by show 0 < 5;omega)
  rw [hA0 (by omega)] at hA
  injection hA with hA
  injection hA with hA
  subst hA
  obtain ⟨Ax,cx,he,hl,hC⟩:=Kd.R_reads h.steps
  injection he with e1 e2 e3
  subst e1
  rw [hA0 (by omega)] at hC
  obtain ⟨ad,ead,q0,q1,q2,q3,q4⟩:=at_T35 hC (i:Int) (by omega) (by rw [foldS_len];omega)
  injection ead with ead
  subst ead
  simp only [Int.toNat_natCast,Addr.add_lit,Nat.zero_add] at q0 q1 q2 q3 q4
  refine ⟨i,j,hi,h12,by simp,?_,?_⟩
  ·rcases h12 with rfl | rfl
   ·simpa [getF,rdQ] using q1
   ·simpa [getF,rdQ] using q2
  ·exact bk_f hh _
 ·obtain ⟨i,hi,rfl⟩:=mem_rowPlaces.1 hx
  right
  obtain ⟨g,cells,hA,hbg,hgl,_,hh,_,_⟩:=R_shape h.rows (by omega) (by show 0 < 2;omega)
  rw [hA2 (by omega)] at hA
  injection hA with hA
  injection hA with hA
  subst hA
  obtain ⟨Ax,cx,he,hl,hC⟩:=Kd.R_reads h.rows
  injection he with e1 e2 e3
  subst e1
  rw [hA2 (by omega)] at hC
  obtain ⟨ad,ead,q0,q1⟩:=at_T37 hC (i:Int) (by omega) (by rw [foldR_len];omega)
  injection ead with ead
  subst ead
  simp only [Int.toNat_natCast,Addr.add_lit,Nat.zero_add] at q0 q1
  refine ⟨i,hi,by simp,?_,?_⟩
  ·simpa [rdR] using q1
  ·exact bk_f hh _
theorem updS_hit {g i j:Nat} {L:List S35} {x:Int × Addr} (hx:x.2=⟨g,i*5+j,none⟩) (hj:j < 5):updS φ g L x=L.set i (setF (L.getD i z35) j (φ x.1 (getF (L.getD i z35) j))):=by
 have e1:(i*5+j) / 5=i:=by omega
 have e2:(i*5+j) % 5=j:=by omega
 unfold updS
 rw [hx]
 simp only [if_true,e1,e2]
theorem updS_miss {g:Nat} {L:List S35} {x:Int × Addr} (hx:x.2.block≠g):updS φ g L x=L:=by unfold updS;rw [if_neg hx]
theorem updR_hit {g i:Nat} {L:List S37} {x:Int × Addr} (hx:x.2=⟨g,i*2+1,none⟩):updR φ g L x=L.set i { (L.getD i z37) with f1:=φ x.1 (L.getD i z37).f1 }:=by
 have e1:(i*2+1) / 2=i:=by omega
 unfold updR
 rw [hx]
 simp only [if_true,e1]
theorem updR_miss {g:Nat} {L:List S37} {x:Int × Addr} (hx:x.2.block≠g):updR φ g L x=L:=by unfold updR;rw [if_neg hx]
theorem PInv.set {A0 A2:Option Addr} {n d0 m d2:Nat} {ops:List Int} (h:PInv φ base w w3 gS gR bV okS okR (.slice A0 n d0) (.slice A2 m d2) l0 l2 pre W) (hA0:0 < n→A0=some ⟨gS,0,none⟩) (hA2:0 < m→A2=some ⟨gR,0,none⟩) (hn:n=l0.length) (hm:m=l2.length) (hops:ops.length=n)
  (hne:gS≠gR) (hoS:∀ k,okS k→k≠gR) (hoR:∀ k,okR k→k≠gS) (hgw:base≤gS) (hgw2:base≤gR) {x:Int × Addr} (hx:x ∈ allPlaces gS 0 ops gR 0 m) (c:Int) (hc:W.cell? x.2=some (.int .i64 c)) (q:Nat) :
  PInv φ base w w3 gS gR bV okS okR (.slice A0 n d0) (.slice A2 m d2) l0 l2 (pre ++ [x]) ((W.setCell x.2 (.int .i64 (φ x.1 c))).drewN q):=by
 have hsz:∀ (p:Addr) (u:Value),(W.setCell p u).heap.size=W.heap.size:=fun p u=>by simp [World.setCell]
 rcases h.cell hA0 hA2 hn hm hops hx with ⟨i,j,hi,h12,hx2,hcell,_⟩ | ⟨i,hi,hx2,hcell,_⟩
 ·rw [hc] at hcell
  have hcc:c=getF ((pre.foldl (updS φ gS) l0).getD i z35) j:=by injection hcell with h1;injection h1
  have hj5:j < 5:=by omega
  have hu:=updS_hit (φ:=φ) (L:=pre.foldl (updS φ gS) l0) hx2 hj5
  rw [← hcc] at hu
  have hv:=updR_miss (φ:=φ) (g:=gR) (L:=pre.foldl (updR φ gR) l2) (x:=x) (by rw [hx2];exact hne)
  have hs':=h.steps
  rw [hA0 (by omega)] at hs'
  have hs2:=set35 hs' i j hi h12 (φ x.1 c)
  refine ⟨?_,?_,fun k hk h1 h2=>?_,?_,?_⟩
  ·show w3.heap.size≤(W.setCell _ _).heap.size
   rw [hsz];exact h.size
  ·rw [hx2];exact pwbd (h.below.setCell (p:=⟨gS,i*5+j,none⟩) hgw _) q
  ·show (W.setCell _ _).heap[k]?=_
   rw [hx2,Below.heap_setCell _ _ _ _ h1];exact h.same k hk h1 h2
  ·rw [List.foldl_append,List.foldl_cons,List.foldl_nil,hu,hx2,hA0 (by omega)]
   exact Kd.R_drewN hs2 q
  ·rw [List.foldl_append,List.foldl_cons,List.foldl_nil,hv,hx2]
   exact Kd.R_drewN (Kd.R_far h.rows (p:=⟨gS,i*5+j,none⟩) hoR _) q
 ·rw [hc] at hcell
  have hcc:c=((pre.foldl (updR φ gR) l2).getD i z37).f1:=by injection hcell with h1;injection h1
  have hu:=updR_hit (φ:=φ) (L:=pre.foldl (updR φ gR) l2) hx2
  rw [← hcc] at hu
  have hv:=updS_miss (φ:=φ) (g:=gS) (L:=pre.foldl (updS φ gS) l0) (x:=x) (by rw [hx2];exact Ne.symm hne)
  have hs':=h.rows
  rw [hA2 (by omega)] at hs'
  have hs2:=set37 hs' i hi (φ x.1 c)
  refine ⟨?_,?_,fun k hk h1 h2=>?_,?_,?_⟩
  ·show w3.heap.size≤(W.setCell _ _).heap.size
   rw [hsz];exact h.size
  ·rw [hx2];exact pwbd (h.below.setCell (p:=⟨gR,i*2+1,none⟩) hgw2 _) q
  ·show (W.setCell _ _).heap[k]?=_
   rw [hx2,Below.heap_setCell _ _ _ _ h2];exact h.same k hk h1 h2
  ·rw [List.foldl_append,List.foldl_cons,List.foldl_nil,hv,hx2]
   exact Kd.R_drewN (Kd.R_far h.steps (p:=⟨gR,i*2+1,none⟩) hoS _) q
  ·rw [List.foldl_append,List.foldl_cons,List.foldl_nil,hu,hx2,hA2 (by omega)]
   exact Kd.R_drewN hs2 q
end
def placed (φ:Int→Int→Int) (x:S35):S35:=match namedOff x.f0 with
 | some j=>setF x j (φ x.f0 (getF x j))
 | none=>x
def placedR (φ:Int→Int→Int) (y:S37):S37:={ y with f1:=φ 3 y.f1 }
theorem fold_miss_S {φ:Int→Int→Int} {gS gR:Nat} (hne:gS≠gR) (m:Nat):∀ (L:List S35),(rowPlaces gR 0 m).foldl (updS φ gS) L=L:=by
 induction m with
 | zero=>intro L;rfl
 | succ m ih=>intro L;rw [rowPlaces_succ,List.foldl_append,ih];exact updS_miss (by exact Ne.symm hne)
theorem fold_hit_S {φ:Int→Int→Int} {gS:Nat} (l0:List S35) (k:Nat) (hk:k≤l0.length):(stepPlaces gS 0 (l0.map S35.f0) k).foldl (updS φ gS) l0=(l0.take k).map (placed φ) ++ l0.drop k:=by
 induction k with
 | zero=>simp [stepPlaces]
 | succ k ih =>
  have hlt:k < l0.length:=by omega
  have hop:(l0.map S35.f0).getD k 0=l0[k].f0:=by simp [List.getD,hlt]
  have hlen:((l0.take k).map (placed φ)).length=k:=by simp;omega
  have hget:((l0.take k).map (placed φ) ++ l0.drop k).getD k z35=l0[k]:=by
   rw [List.getD_eq_getElem?_getD,List.getElem?_append_right (by omega),hlen,Nat.sub_self,List.getElem?_drop]
   simp [hlt]
  have hset:∀ y,((l0.take k).map (placed φ) ++ l0.drop k).set k y=(l0.take k).map (placed φ) ++ y :: l0.drop (k+1):=by
   intro y
   rw [List.set_append_right _ _ (by omega),hlen,Nat.sub_self,List.drop_eq_getElem_cons hlt]
   rfl
  have htake:(l0.take (k+1)).map (placed φ)=(l0.take k).map (placed φ) ++ [placed φ l0[k]]:=by
   rw [List.take_succ_eq_append_getElem hlt,List.map_append];rfl
  rw [stepPlaces_succ,List.foldl_append,ih (by omega),hop,htake,List.append_assoc]
  unfold placed
  cases hno:namedOff l0[k].f0 with
  | none =>
   show (l0.take k).map _ ++ l0.drop k=_
   rw [List.drop_eq_getElem_cons hlt]
   rfl
  | some j =>
   have h12:=namedOff_12 hno
   show updS φ gS _ _=_
   rw [updS_hit (i:=k) (j:=j) (by simp) (by omega)]
   have hget':=hget
   have hset':=hset
   unfold placed at hget' hset'
   rw [hget',hset']
   rfl
theorem fold_steps {φ:Int→Int→Int} {gS gR:Nat} (hne:gS≠gR) (l0:List S35) (m:Nat):(allPlaces gS 0 (l0.map S35.f0) gR 0 m).foldl (updS φ gS) l0=l0.map (placed φ):=by
 unfold allPlaces
 rw [List.foldl_append,List.length_map,fold_hit_S l0 l0.length (Nat.le_refl _),fold_miss_S hne]
 simp
theorem fold_miss_R {φ:Int→Int→Int} {gS gR:Nat} (hne:gS≠gR) (ops:List Int) (k:Nat):∀ (L:List S37),(stepPlaces gS 0 ops k).foldl (updR φ gR) L=L:=by
 induction k with
 | zero=>intro L;simp [stepPlaces]
 | succ k ih =>
  intro L
  rw [stepPlaces_succ,List.foldl_append,ih]
  cases namedOff (ops.getD k 0) with
  | none=>rfl
  | some j=>exact updR_miss (by exact hne)
theorem fold_hit_R {φ:Int→Int→Int} {gR:Nat} (l2:List S37) (k:Nat) (hk:k≤l2.length):(rowPlaces gR 0 k).foldl (updR φ gR) l2=(l2.take k).map (placedR φ) ++ l2.drop k:=by
 induction k with
 | zero=>simp [rowPlaces]
 | succ k ih =>
  have hlt:k < l2.length:=by omega
  have hlen:((l2.take k).map (placedR φ)).length=k:=by simp;omega
  have hget:((l2.take k).map (placedR φ) ++ l2.drop k).getD k z37=l2[k]:=by
   rw [List.getD_eq_getElem?_getD,List.getElem?_append_right (by omega),hlen,Nat.sub_self,List.getElem?_drop]
   simp [hlt]
  have hset:∀ y,((l2.take k).map (placedR φ) ++ l2.drop k).set k y=(l2.take k).map (placedR φ) ++ y :: l2.drop (k+1):=by
   intro y
   rw [List.set_append_right _ _ (by omega),hlen,Nat.sub_self,List.drop_eq_getElem_cons hlt]
   rfl
  have htake:(l2.take (k+1)).map (placedR φ)=(l2.take k).map (placedR φ) ++ [placedR φ l2[k]]:=by
   rw [List.take_succ_eq_append_getElem hlt,List.map_append];rfl
  rw [rowPlaces_succ,List.foldl_append,ih (by omega),htake,List.append_assoc]
  show updR φ gR _ _=_
  rw [updR_hit (i:=k) (by simp),hget,hset]
  rfl
theorem fold_rows {φ:Int→Int→Int} {gS gR:Nat} (hne:gS≠gR) (ops:List Int) (l2:List S37):(allPlaces gS 0 ops gR 0 l2.length).foldl (updR φ gR) l2=l2.map (placedR φ):=by
 unfold allPlaces
 rw [List.foldl_append,fold_miss_R hne,fold_hit_R l2 l2.length (Nat.le_refl _)]
 simp
end Go.Proofs.Ytedghbjmhcgilaa.A
end
section
namespace Go.Proofs.Ytedghbjmhcgilaa.A
open Go.RowKit Go.Shelf Go.Proofs.YtedghbjmhcgilaaW.PrintWords Go.Proofs.YtedghbjmhcgilaaW.PrintLast Go.Proofs.YtedghbjmhcgilaaW.PrintMore
open Go.Proofs.Ytedghbjmhcgilaa.POpt
attribute [local go_sem] Oper.semAt_some
def keptAt (l:List S35) (out:List Bool) (i:Nat):List S35:=(((l.zip out).take i).filter (fun z=>!z.2)).map (·.1)
def nowAt (out:List Bool) (i:Nat) (x:Int):Option Int:=if 0≤x∧x < i∧out.getD x.toNat true=false then some ((((out.take x.toNat).filter (!·)).length:Nat):Int) else none
theorem nowAt_zero (out:List Bool):nowAt out 0=fun _=>none:=by
 funext x;unfold nowAt;rw [if_neg (by omega)]
theorem zip_take_succ {l:List S35} {out:List Bool} {k:Nat} (hk:k < l.length) (hl:out.length=l.length):(l.zip out).take (k+1)=(l.zip out).take k ++ [(l[k],out[k])]:=by
 have hz:k < (l.zip out).length:=by simp;omega
 rw [List.take_succ_eq_append_getElem hz,List.getElem_zip]
theorem keptAt_succ {l:List S35} {out:List Bool} {k:Nat} (hk:k < l.length) (hl:out.length=l.length):keptAt l out (k+1)=if out[k] then keptAt l out k else keptAt l out k ++ [l[k]]:=by
 unfold keptAt
 rw [zip_take_succ hk hl,List.filter_append,List.map_append]
 cases out[k] <;> simp
theorem keptAt_len {l:List S35} {out:List Bool} (hl:out.length=l.length) (k:Nat) (hk:k≤l.length):(keptAt l out k).length=((out.take k).filter (!·)).length:=by
 induction k with
 | zero=>simp [keptAt]
 | succ k ih =>
  rw [keptAt_succ (by omega) hl,List.take_succ_eq_append_getElem (by omega),List.filter_append,List.length_append,← ih (by omega)]
  cases out[k] <;> simp
theorem nowAt_true {out:List Bool} {k:Nat} (hk:k < out.length) (h:out[k]=true):nowAt out (k+1)=nowAt out k:=by
 funext x
 unfold nowAt
 by_cases hx:x=k
 ·subst hx
  simp [List.getD,hk,h]
 ·have:(x < ((k+1:Nat):Int))=(x < (k:Int)):=by apply propext;omega
  simp only [this]
theorem nowAt_false {l:List S35} {out:List Bool} {k:Nat} (hk:k < out.length) (hl:out.length=l.length) (h:out[k]=false):nowAt out (k+1)=fun x=>if x=(k:Int) then some ((keptAt l out k).length:Int) else nowAt out k x:=by
 funext x
 by_cases hx:x=k
 ·subst hx
  simp only [if_true]
  rw [keptAt_len hl k (by omega)]
  unfold nowAt
  simp [List.getD,hk,h]
  omega
 ·rw [if_neg hx]
  unfold nowAt
  have:(x < ((k+1:Nat):Int))=(x < (k:Int)):=by apply propext;omega
  simp only [this]
theorem keptAt_le (l:List S35) (out:List Bool) (k:Nat):(keptAt l out k).length≤k:=by
 unfold keptAt
 rw [List.length_map]
 exact Nat.le_trans (List.length_filter_le _ _) (by simp;omega)
theorem rdB {out:List Bool} {k:Nat} (hk:k < out.length):rdOf false out (k:Int)=out[k]:=by
 simp [rdOf,hk]
theorem rdS {l:List S35} {k:Nat} (hk:k < l.length):rdQ l (k:Int)=l[k]:=by
 simp [rdQ,hk]
def wfI (x:Int):Prop:=(Lit.int .i64 x).wf=true
def wfS (x:S35):Prop:=wfI x.f1∧wfI x.f2
theorem wfS_z:wfS z35:=⟨rfl,rfl⟩
theorem wfS_get {L:List S35} (h:∀ x ∈ L,wfS x) (i j:Nat):wfI (getF (L.getD i z35) j):=by
 have h1:wfS (L.getD i z35):=by
  rw [List.getD_eq_getElem?_getD]
  cases hx:L[i]? with
  | none=>exact wfS_z
  | some y=>exact h y (List.mem_of_getElem? hx)
 unfold getF
 split
 ·exact h1.1
 ·exact h1.2
theorem wfS_set {x:S35} (h:wfS x) (j:Nat) (v:Int) (hv:wfI v):wfS (setF x j v):=by
 unfold setF
 split
 ·exact ⟨hv,h.2⟩
 ·exact ⟨h.1,hv⟩
theorem wfS_getD {L:List S35} (h:∀ x ∈ L,wfS x) (i:Nat):wfS (L.getD i z35):=by
 rw [List.getD_eq_getElem?_getD]
 cases hx:L[i]? with
 | none=>exact wfS_z
 | some y=>exact h y (List.mem_of_getElem? hx)
theorem foldS_wf {φ:Int→Int→Int} (hφ:∀ p c,wfI c→wfI (φ p c)) (g:Nat) (pre:List (Int × Addr)):∀ L:List S35,(∀ x ∈ L,wfS x)→∀ x ∈ pre.foldl (updS φ g) L,wfS x:=by
 induction pre with
 | nil=>intro L h;exact h
 | cons y pre ih =>
  intro L h
  refine ih _ ?_
  intro x hx
  unfold updS at hx
  split at hx
  ·rcases List.mem_or_eq_of_mem_set hx with hx | rfl
   ·exact h x hx
   ·exact wfS_set (wfS_getD h _) _ _ (hφ _ _ (wfS_get h _ _))
  ·exact h x hx
theorem wfR_getD {L:List S37} (h:∀ x ∈ L,wfI x.f1) (i:Nat):wfI (L.getD i z37).f1:=by
 rw [List.getD_eq_getElem?_getD]
 cases hx:L[i]? with
 | none=>exact rfl
 | some y=>exact h y (List.mem_of_getElem? hx)
theorem foldR_wf {φ:Int→Int→Int} (hφ:∀ p c,wfI c→wfI (φ p c)) (g:Nat) (pre:List (Int × Addr)):∀ L:List S37,(∀ x ∈ L,wfI x.f1)→∀ x ∈ pre.foldl (updR φ g) L,wfI x.f1:=by
 induction pre with
 | nil=>intro L h;exact h
 | cons y pre ih =>
  intro L h
  refine ih _ ?_
  intro x hx
  unfold updR at hx
  split at hx
  ·rcases List.mem_or_eq_of_mem_set hx with hx | rfl
   ·exact h x hx
   ·exact hφ _ _ (wfR_getD h _)
  ·exact h x hx
theorem keptAt_mem {l:List S35} {out:List Bool} {k:Nat} {x:S35} (h:x ∈ keptAt l out k):x ∈ l:=by
 unfold keptAt at h
 obtain ⟨z,hz,rfl⟩:=List.mem_map.1 h
 exact (List.of_mem_zip (List.mem_of_mem_take (List.mem_filter.1 hz).1)).1
def toNow (out:List Bool) (n:Nat) (_op p:Int):Int:=(nowAt out n p).getD p
theorem toNow_wf {out:List Bool} {n:Nat} (hn:n≤9223372036854775807) (ho:out.length=n) (p c:Int) (hc:wfI c):wfI (toNow out n p c):=by
 unfold toNow nowAt
 split
 ·have:((out.take c.toNat).filter (!·)).length≤n:=by
   refine Nat.le_trans (List.length_filter_le _ _) ?_
   simp;omega
  simp only [Option.getD_some]
  exact WalkArith.wf_i64 (by omega)
 ·exact hc
end Go.Proofs.Ytedghbjmhcgilaa.A
end
section
namespace Go.Proofs.Ytedghbjmhcgilaa.A
open Go.RowKit Go.Shelf Go.Proofs.YtedghbjmhcgilaaW.PrintWords Go.Proofs.YtedghbjmhcgilaaW.PrintLast Go.Proofs.YtedghbjmhcgilaaW.PrintMore
open Go.Proofs.Ytedghbjmhcgilaa.POpt
def vals (l0:List S35) (l1:List S37):List Int:=l0.filterMap (fun x=>(namedOff x.f0).map (getF x)) ++ l1.map S37.f1
def mark (n:Nat) (T:List Bool) (c:Int):List Bool:=if 0≤c∧c < n then T.set c.toNat true else T
def targets (l0:List S35) (l1:List S37):List Bool:=(vals l0 l1).foldl (mark l0.length) (List.replicate l0.length false)
def valOf (l0:List S35) (l1:List S37) (gS:Nat) (x:Int × Addr):Int:=if x.2.block=gS then getF (l0.getD (x.2.off / 5) z35) (x.2.off % 5) else (l1.getD (x.2.off / 2) z37).f1
theorem mark_len (n:Nat) (T:List Bool) (c:Int):(mark n T c).length=T.length:=by unfold mark;split <;> simp
theorem marks_len (n:Nat) (L:List Int):∀ T:List Bool,(L.foldl (mark n) T).length=T.length:=by
 induction L with
 | nil=>intro T;rfl
 | cons c L ih=>intro T;rw [List.foldl_cons,ih,mark_len]
theorem targets_len (l0:List S35) (l1:List S37):(targets l0 l1).length=l0.length:=by unfold targets;rw [marks_len];simp
theorem vals_S {l0:List S35} {l1:List S37} {gS:Nat} (k:Nat) (hk:k≤l0.length):(stepPlaces gS 0 (l0.map S35.f0) k).map (valOf l0 l1 gS)=(l0.take k).filterMap (fun x=>(namedOff x.f0).map (getF x)):=by
 induction k with
 | zero=>simp [stepPlaces]
 | succ k ih =>
  have hlt:k < l0.length:=by omega
  have hop:(l0.map S35.f0).getD k 0=l0[k].f0:=by simp [List.getD,hlt]
  rw [stepPlaces_succ,List.map_append,ih (by omega),hop,List.take_succ_eq_append_getElem hlt,List.filterMap_append]
  congr 1
  cases hno:namedOff l0[k].f0 with
  | none=>simp [hno]
  | some j =>
   have h12:=namedOff_12 hno
   have e1:(k*5+j) / 5=k:=by omega
   have e2:(k*5+j) % 5=j:=by omega
   simp [hno,valOf,e1,e2,List.getD,hlt]
theorem vals_R {l0:List S35} {l1:List S37} {gS gR:Nat} (hne:gS≠gR) (k:Nat) (hk:k≤l1.length):(rowPlaces gR 0 k).map (valOf l0 l1 gS)=(l1.take k).map S37.f1:=by
 induction k with
 | zero=>simp [rowPlaces]
 | succ k ih =>
  have hlt:k < l1.length:=by omega
  have e1:(k*2+1) / 2=k:=by omega
  rw [rowPlaces_succ,List.map_append,ih (by omega),List.take_succ_eq_append_getElem hlt,List.map_append]
  congr 1
  simp [valOf,e1,List.getD,hlt,Ne.symm hne]
theorem vals_all {l0:List S35} {l1:List S37} {gS gR:Nat} (hne:gS≠gR):(allPlaces gS 0 (l0.map S35.f0) gR 0 l1.length).map (valOf l0 l1 gS)=vals l0 l1:=by
 unfold allPlaces vals
 rw [List.map_append,List.length_map,vals_S l0.length (Nat.le_refl _),vals_R hne l1.length (Nat.le_refl _),List.take_length,List.take_length]
theorem targets_fold {l0:List S35} {l1:List S37} {gS gR:Nat} (hne:gS≠gR):(allPlaces gS 0 (l0.map S35.f0) gR 0 l1.length).foldl (fun T x=>mark l0.length T (valOf l0 l1 gS x)) (List.replicate l0.length false)=targets l0 l1:=by
 unfold targets
 rw [← vals_all hne,List.foldl_map]
def fz (x y:S35):Option S35 :=
 if x.f0=5∧y.f0=7 then some ⟨14,x.f1,y.f1,0,0⟩ else if x.f0=5∧y.f0=8 then some ⟨15,x.f1,y.f1,0,0⟩ else if x.f0=17∧y.f0=18 then some ⟨25,x.f1,y.f1,0,0⟩ else none
theorem fused_some {x y z:S35} (h:fz x y=some z):opt_fused.f 3 x.f0 x.f1 x.f2 x.f3 x.f4 y.f0 y.f1 y.f2 y.f3 y.f4=some (z.f0,z.f1,z.f2,z.f3,z.f4,true):=by
 unfold fz at h
 split at h
 ·next hc=>injection h with h;subst h;simp [opt_fused.f,opt_fused.j0,hc]
 ·next hc =>
  split at h
  ·next hd=>injection h with h;subst h;simp [opt_fused.f,opt_fused.j0,opt_fused.j1,hd]
  ·next hd =>
   split at h
   ·next he=>injection h with h;subst h;simp [opt_fused.f,opt_fused.j0,opt_fused.j1,he]
   ·cases h
theorem fused_none {x y:S35} (h:fz x y=none):opt_fused.f 3 x.f0 x.f1 x.f2 x.f3 x.f4 y.f0 y.f1 y.f2 y.f3 y.f4=some (0,0,0,0,0,false):=by
 unfold fz at h
 split at h
 ·cases h
 ·next hc =>
  split at h
  ·cases h
  ·next hd =>
   split at h
   ·cases h
   ·next he =>
    by_cases h5:x.f0=5
    ·have h7:y.f0≠7:=fun e=>hc ⟨h5,e⟩
     have h8:y.f0≠8:=fun e=>hd ⟨h5,e⟩
     simp [opt_fused.f,opt_fused.j0,opt_fused.j1,h5,h7,h8]
    ·by_cases h17:x.f0=17
     ·have h18:y.f0≠18:=fun e=>he ⟨h17,e⟩
      simp [opt_fused.f,opt_fused.j0,opt_fused.j1,h17,h18]
     ·simp [opt_fused.f,opt_fused.j0,opt_fused.j1,h5,h17]
def fuseGo (T:List Bool):Nat→List S35→List Bool→Nat→List S35 × List Bool
 | 0,s,o,_=>(s,o)
 | f+1,s,o,i =>
  if i+1 < s.length then
   match fz (s.getD i z35) (s.getD (i+1) z35) with
   | some z=>if T.getD (i+1) false=false then fuseGo T f (s.set i z) (o.set (i+1) true) (i+2) else fuseGo T f s o (i+1)
   | none=>fuseGo T f s o (i+1)
  else (s,o)
theorem fuseGo_end {T:List Bool} {f:Nat} {s:List S35} {o:List Bool} {i:Nat} (h:¬ i+1 < s.length):fuseGo T f s o i=(s,o):=by
 cases f with
 | zero=>rfl
 | succ f=>rw [fuseGo,if_neg h]
theorem fuseGo_none {T:List Bool} {f:Nat} {s:List S35} {o:List Bool} {i:Nat} (h:i+1 < s.length) (hz:fz (s.getD i z35) (s.getD (i+1) z35)=none):fuseGo T (f+1) s o i=fuseGo T f s o (i+1):=by
 rw [fuseGo,if_pos h,hz]
theorem fuseGo_named {T:List Bool} {f:Nat} {s:List S35} {o:List Bool} {i:Nat} {z:S35} (h:i+1 < s.length) (hz:fz (s.getD i z35) (s.getD (i+1) z35)=some z) (ht:T.getD (i+1) false=true):fuseGo T (f+1) s o i=fuseGo T f s o (i+1):=by
 rw [fuseGo,if_pos h,hz]
 simp only [ht]
 rfl
theorem fuseGo_some {T:List Bool} {f:Nat} {s:List S35} {o:List Bool} {i:Nat} {z:S35} (h:i+1 < s.length) (hz:fz (s.getD i z35) (s.getD (i+1) z35)=some z) (ht:T.getD (i+1) false=false):fuseGo T (f+1) s o i=fuseGo T f (s.set i z) (o.set (i+1) true) (i+2):=by
 rw [fuseGo,if_pos h,hz]
 simp only [ht,if_true]
theorem fz_wf {x y z:S35} (hx:wfS x) (hy:wfS y) (h:fz x y=some z):wfS z:=by
 unfold fz at h
 repeat (split at h <;> first | (injection h with h;subst h;exact ⟨hx.1,hy.1⟩) | skip)
 cases h
theorem set_wf {L:List S35} (h:∀ x ∈ L,wfS x) (i:Nat) {z:S35} (hz:wfS z):∀ x ∈ L.set i z,wfS x:=by
 intro x hx
 rcases List.mem_or_eq_of_mem_set hx with hx | rfl
 ·exact h x hx
 ·exact hz
def fuseEnd (l0:List S35) (l1:List S37):List S35 × List Bool:=fuseGo (targets l0 l1) l0.length l0 (List.replicate l0.length false) 0
def fuseP (l0:List S35) (l1:List S37):List S35 × List S37 :=
 ((keptAt (fuseEnd l0 l1).1 (fuseEnd l0 l1).2 l0.length).map (placed (toNow (fuseEnd l0 l1).2 l0.length)),l1.map (placedR (toNow (fuseEnd l0 l1).2 l0.length)))
end Go.Proofs.Ytedghbjmhcgilaa.A
end
section
namespace Go.Proofs.Ytedghbjmhcgilaa.A
open Go
variable {F:Fence} {n:Nat} {P:Program} {ops:Array Oper} {md:Region.Mode} {C:World→Prop}
theorem wpIn_of_quiet_round {ln:Nat} {o:Oper} {a:Act} {K:Act→Prop} {K':Act→World→Prop} {Q':Exit→Act→World→Prop} {w:World} (hnd:∀ c,o.op≠.defer c) (hw:C w) (h:∀ a w',C w'→K a→K' a w')
  (ha:o.askedIn F P a C) (hh:o.quietIn F n P a C K):o.wpIn (F.inRound ln) n P a w K' Q':=by
 obtain ⟨v,h1,h2⟩:=hh
 have h3:=h1 w hw
 unfold Oper.quietAtIn at h3
 unfold Oper.wpIn
 refine ⟨ha w hw,?_⟩
 rw [Oper.semAt_eq _ _ _ hnd]
 generalize (execOp a.eval o).run P w=r at *
 cases r with
 | ok x w' =>
  cases x <;> simp only [Oper.quietUponIn] at h3 <;> simp only [Oper.uponIn]
  case value u =>
   obtain ⟨e1,e2⟩:=h3
   rw [e1,e2]
   exact h _ _ hw h2
  case skip =>
   obtain ⟨e1,e2⟩:=h3
   rw [e1,← e2]
   exact h _ _ hw h2
  case enter f args =>
   obtain ⟨e1,hd,hc⟩:=h3
   rw [e1]
   exact ⟨hd,CallsIn.inRound ln (hc.mono fun e w'' ⟨he,hw''⟩=>by subst he;exact h _ _ hw'' h2)⟩
 | halt x w'=>simp only [Oper.quietUponIn] at h3
def noDefer (ops:Array Oper):Bool:=ops.all fun o=>match o.op with | .defer _=>false | _=>true
theorem noDefer_at {ops:Array Oper} (h:noDefer ops=true) {i:Nat} {o:Oper} (ho:ops[i]?=some o):∀ c,o.op≠.defer c:=by
 intro c hc
 unfold noDefer at h
 rw [Array.all_eq_true] at h
 obtain ⟨hi,he⟩:=Array.getElem?_eq_some_iff.1 ho
 have:=h i hi
 rw [he,hc] at this
 simp at this
theorem wpOpIn_of_qOpIn_round {ln:Nat} {i:Nat} {a:Act} {K:Act→Prop} {K':Act→World→Prop} {Q':Exit→Act→World→Prop} {w:World} (hnd:noDefer ops=true) (hC:C w) (h:∀ a w',C w'→K a→K' a w')
  (hh:qOpIn F n P ops C i K a):wpOpIn (F.inRound ln) n P ops Q' i K' a w:=by
 unfold qOpIn at hh
 unfold wpOpIn
 split
 ·rename_i ho;simp only [ho] at hh;exact h _ _ hC hh
 ·rename_i o ho
  simp only [ho] at hh
  obtain ⟨ha,hh⟩:=hh
  split
  ·rename_i hw;simp only [hw,if_true] at hh;exact wpIn_of_quiet_round (noDefer_at hnd ho) hC h ha hh
  ·rename_i hw;simp only [hw] at hh;exact ⟨ha w hC,h _ _ hC hh⟩
theorem wpAnyIn_of_quiet_round {ln:Nat} {Q:Act→Prop} {Q':Exit→Act→World→Prop} (hnd:noDefer ops=true) (hQ:∀ a w,C w→Q a→Q' .normal a w):∀ (fuel:Nat) (listed:Array Bool) (a:Act) (w:World),C w →
  wpAnyQIn F n P md ops C Q fuel listed a→wpAnyIn (F.inRound ln) n P md ops Q' fuel listed a w
 | 0,_,_,_,hw,h=>⟨h.1,hQ _ _ hw h.2⟩
 | fuel+1,_,_,_,hw,h=>⟨fun h0=>hQ _ _ hw (h.1 h0),fun i hi=>wpOpIn_of_qOpIn_round hnd hw (fun a' w' hw'=>wpAnyIn_of_quiet_round hnd hQ fuel _ a' w' hw') (h.2 i hi)⟩
theorem wpIn_region_quiet_round {ln:Nat} {id:Nat} {Q:Exit→Act→World→Prop} {a:Act} {w:World} {l:List Oper} (hm:P.follows .mixedOrders=true) (hB:Region.lexB .any l.toArray=true) (hnd:noDefer l.toArray=true)
  (h:wpQuietIn F n P l.toArray (fun w'=>∃ n,w'=w.drewN n) (fun a'=>∀ w',(∃ n,w'=w.drewN n)→Q .normal a' w') l a):(Code.region id l.toArray true).wpIn (F.inRound ln) n P Q a w:=by
 simp only [Region.lexB,Bool.and_eq_true] at hB
 refine wpIn_region_any hm (wpAnyIn_of_quiet_round (F:=F) (C:=fun w'=>∃ n,w'=w.drewN n) (Q:=fun a'=>∀ w',(∃ n,w'=w.drewN n)→Q .normal a' w') hnd (fun _ w' hw' h=>h w' hw') _ _ _ _ ⟨1,rfl⟩ ?_)
 have:=wpAnyQIn_lex (F:=F) (n:=n) (P:=P) (C:=fun w'=>∃ n,w'=w.drewN n) (Q:=fun a'=>∀ w',(∃ n,w'=w.drewN n)→Q .normal a' w') (md:=.any) hB.1 l.toArray.toList 0 (Array.replicate l.toArray.size false) a (by simp) (by simpa using hB.2) (by simpa using h)
 simpa using this
end Go.Proofs.Ytedghbjmhcgilaa.A
end
