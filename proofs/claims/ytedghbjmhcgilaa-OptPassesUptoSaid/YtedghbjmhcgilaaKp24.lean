/- OptPasses (cartouchelaw14), proved of the given program: in each block of any valid program each pass (Tables, Fuse, Thread, Trim, Block) tells what the document's reference tells.
   Conditions: none beyond the given statement OptPassesUptoSaid (the bulk of the arguments is at most 1048576). -/
import Derived.Carry
import Derived.ChangeOld
import Derived.Deep.Slices
import Derived.JoinedCond
import Derived.OpenShut
import Derived.ProofKit
import Derived.WalkKit
import Derived.Test.YtedghbjmhcgilaaKp11
import Derived.Test.YtedghbjmhcgilaaKp20
import Derived.Test.YtedghbjmhcgilaaKp21
import Derived.Test.YtedghbjmhcgilaaKp22
import Derived.Test.YtedghbjmhcgilaaKp23
import Derived.Test.YtedghbjmhcgilaaRows
set_option linter.unusedVariables false
set_option linter.unusedSimpArgs false
section
namespace Go.Proofs.Ytedghbjmhcgilaa.A
open Go.RowKit Go.Proofs.YtedghbjmhcgilaaW.PrintWords Go.Proofs.YtedghbjmhcgilaaW.PrintLast Go.Proofs.YtedghbjmhcgilaaW.PrintMore
open Go.Proofs.Ytedghbjmhcgilaa.POpt
open Go.ChangeShapes Go.WideShapes Go.ChangeAt Go.Deep
def fit5 (x:S35):Prop:=wfI x.f0∧wfI x.f1∧wfI x.f2∧wfI x.f3∧wfI x.f4
def fit2 (x:S37):Prop:=wfI x.f0∧wfI x.f1
structure FitB (b:S30):Prop where
 n0:b.f0.length≤1048576
 n1:b.f1.length≤1048576
 n2:b.f2.length≤1048576
 w0:∀ x ∈ b.f0,fit5 x
 w1:∀ x ∈ b.f1,fit5 x
 w2:∀ x ∈ b.f2,fit2 x
theorem bulk_one {H:Type} (d:DataW H):1≤Rows.uptoBulk d:=by
 cases d with
 | lit l=>cases l <;> simp [Rows.uptoBulk]
 | nil=>simp [Rows.uptoBulk]
 | ptr d=>simp [Rows.uptoBulk]
 | slice elems spare=>simp [Rows.uptoBulk]
 | agg parts=>simp [Rows.uptoBulk]
 | iface t d=>simp [Rows.uptoBulk]
 | map entries=>simp [Rows.uptoBulk]
 | held h=>simp [Rows.uptoBulk]
theorem bulk_mem {H:Type} {d:DataW H}:∀ {l:List (DataW H)},d ∈ l→Rows.uptoBulk d≤Rows.uptoBulkAll l
 | x :: r,h=>by
  simp only [Rows.uptoBulkAll]
  rcases List.mem_cons.1 h with e | e
  ·subst e;omega
  ·have:=bulk_mem e;omega
theorem bulk_len {H:Type}:∀ (l:List (DataW H)),l.length≤Rows.uptoBulkAll l
 | []=>by simp
 | x :: r=>by have:=bulk_one x;have:=bulk_len r;simp only [Rows.uptoBulkAll,List.length_cons];omega
section
variable {H:Type} {enc:TypeId × Value→H} {W:World} {spare:Nat→Bool} {held:Bool}
theorem read_int {fuel:Nat} {v:Value} {x:DataW H × List MemPlace} (h:DataW.trod enc Try.prog W 0 spare held fuel 3 [v]=some x):∃ n:Int,v=.int .i64 n∧wfI n:=by
 obtain ⟨n,h1,_,h2⟩:=DataW.trod_int Try.underlying3 h
 injection h1 with h1
 exact ⟨n,h1,h2⟩
set_option maxRecDepth 100000 in
theorem read_step {fuel:Nat} {cs:List Value} {x:DataW H × List MemPlace} (h:DataW.trod enc Try.prog W 0 spare held fuel 35 cs=some x):∃ s:S35,cs=[.int .i64 s.f0,.int .i64 s.f1,.int .i64 s.f2,.int .i64 s.f3,.int .i64 s.f4]∧fit5 s:=by
 obtain ⟨xs,n,_,_,hl,hlen,hf⟩:=DataW.trod_struct Try.underlying35 h
 have hc:Try.prog.cellsOf 35=5:=by kernel_rfl
 have hc3:Try.prog.cellsOf 3=1:=by kernel_rfl
 rw [hc] at hl
 match cs,hl with
 | [c0,c1,c2,c3,c4],_ =>
  match xs,hlen with
  | [y0,y1,y2,y3,y4],_ =>
   have g0:DataW.trod enc Try.prog W 0 spare held n 3 (([c0,c1,c2,c3,c4].drop 0).take (Try.prog.cellsOf 3))=some y0:=hf 0 _ rfl
   have g1:DataW.trod enc Try.prog W 0 spare held n 3 (([c0,c1,c2,c3,c4].drop 1).take (Try.prog.cellsOf 3))=some y1:=hf 1 _ rfl
   have g2:DataW.trod enc Try.prog W 0 spare held n 3 (([c0,c1,c2,c3,c4].drop 2).take (Try.prog.cellsOf 3))=some y2:=hf 2 _ rfl
   have g3:DataW.trod enc Try.prog W 0 spare held n 3 (([c0,c1,c2,c3,c4].drop 3).take (Try.prog.cellsOf 3))=some y3:=hf 3 _ rfl
   have g4:DataW.trod enc Try.prog W 0 spare held n 3 (([c0,c1,c2,c3,c4].drop 4).take (Try.prog.cellsOf 3))=some y4:=hf 4 _ rfl
   rw [hc3] at g0 g1 g2 g3 g4
   obtain ⟨n0,rfl,k0⟩:=read_int (x:=y0) g0
   obtain ⟨n1,rfl,k1⟩:=read_int (x:=y1) g1
   obtain ⟨n2,rfl,k2⟩:=read_int (x:=y2) g2
   obtain ⟨n3,rfl,k3⟩:=read_int (x:=y3) g3
   obtain ⟨n4,rfl,k4⟩:=read_int (x:=y4) g4
   exact ⟨⟨n0,n1,n2,n3,n4⟩,rfl,k0,k1,k2,k3,k4⟩
set_option maxRecDepth 100000 in
theorem read_line {fuel:Nat} {cs:List Value} {x:DataW H × List MemPlace} (h:DataW.trod enc Try.prog W 0 spare held fuel 37 cs=some x):∃ s:S37,cs=[.int .i64 s.f0,.int .i64 s.f1]∧fit2 s:=by
 obtain ⟨xs,n,_,_,hl,hlen,hf⟩:=DataW.trod_struct Try.underlying37 h
 have hc:Try.prog.cellsOf 37=2:=by kernel_rfl
 have hc3:Try.prog.cellsOf 3=1:=by kernel_rfl
 rw [hc] at hl
 match cs,hl with
 | [c0,c1],_ =>
  match xs,hlen with
  | [y0,y1],_ =>
   have g0:DataW.trod enc Try.prog W 0 spare held n 3 (([c0,c1].drop 0).take (Try.prog.cellsOf 3))=some y0:=hf 0 _ rfl
   have g1:DataW.trod enc Try.prog W 0 spare held n 3 (([c0,c1].drop 1).take (Try.prog.cellsOf 3))=some y1:=hf 1 _ rfl
   rw [hc3] at g0 g1
   obtain ⟨n0,rfl,k0⟩:=read_int (x:=y0) g0
   obtain ⟨n1,rfl,k1⟩:=read_int (x:=y1) g1
   exact ⟨⟨n0,n1⟩,rfl,k0,k1⟩
theorem read_row {α:Type} [Inhabited α] (d:Kd α) {t e:TypeId} {Q:α→Prop} (ht:Try.prog.underlying t=some (.slice e)) (hc:Try.prog.cellsOf e=d.sz)
  (hr:∀ (n:Nat) (cs:List Value) (y:DataW H × List MemPlace),Rows.uptoBulk y.1≤1048576→DataW.trod enc Try.prog W 0 spare held n e cs=some y→∃ s:α,d.K W s cs∧Q s)
  {fuel:Nat} {v:Value} {x:DataW H × List MemPlace} (hb:Rows.uptoBulk x.1≤1048576) (h:DataW.trod enc Try.prog W 0 spare held fuel t [v]=some x) :
  ∃ (A:Option Addr) (c:Nat) (xs:List α),v=.slice A xs.length c∧xs.length≤c∧Kd.C d W A xs.length xs∧xs.length≤1048576∧∀ s ∈ xs,Q s:=by
 rcases open_slice ht h with ⟨h0,_⟩ | ⟨a,len,cap,m,n,D,Pl,hcs,_,hl,hm,hmm,hx,hi⟩
 ·injection h0 with h0
  exact ⟨none,0,[],h0,by simp,⟨rfl,by simp,fun h=>absurd h (by simp)⟩,by simp,by simp⟩
 ·injection hcs with hcs
  have hlm:len≤m:=by rw [hmm];split <;> omega
  rw [hx] at hb
  have hbulk:len+Rows.uptoBulkAll ((List.range len).map D)≤1048576+Rows.uptoBulkAll ((List.range len).map D):=by
   have h1:=bulk_len ((List.range len).map D)
   simp only [Rows.uptoBulk] at hb
   simp only [List.length_map,List.length_range] at h1
   omega
  have hlen:len≤1048576:=by omega
  have hD:∀ i,i < len→Rows.uptoBulk (D i)≤1048576:=fun i hi=>by
   have h1:=bulk_mem (d:=D i) (l:=(List.range len).map D) (List.mem_map.2 ⟨i,List.mem_range.2 hi,rfl⟩)
   simp only [Rows.uptoBulk] at hb
   omega
  obtain ⟨f,hf⟩:=choose_lt (α:=α) (n:=len) (p:=fun i s=>Q s∧∃ cs,d.K W s cs∧W.cells? 0 (a.add (i*d.sz)) d.sz=some cs) (fun i hi2=>by
   obtain ⟨cs',h1,h2⟩:=hi i (by omega)
   obtain ⟨s,h3,h4⟩:=hr n cs' _ (hD i hi2) h2
   rw [hc] at h1
   exact ⟨s,h4,cs',h3,h1⟩)
  have hxl:((List.range len).map f).length=len:=by simp
  refine ⟨some a,cap,(List.range len).map f,by rw [hxl];exact hcs,by rw [hxl];exact hl,⟨rfl,by rw [hxl];omega,fun _=>⟨a,rfl,fun j p hj=>?_⟩⟩,by rw [hxl];exact hlen,fun s hs=>?_⟩
  ·have hjl:j < len:=by have:=(List.getElem?_eq_some_iff.1 hj).1;rw [hxl] at this;exact this
   obtain ⟨hq,cs,hk,hcl⟩:=hf j hjl
   have hp:f j=p:=by
    rw [List.getElem?_map,List.getElem?_range hjl] at hj
    simpa using hj
   subst hp
   obtain ⟨_,hlc,hat⟩:=World.cells?_some hcl
   refine ⟨cs,hlc,hk,fun i u hi3=>?_⟩
   have hlt:i < d.sz:=by rw [← hlc];exact (List.getElem?_eq_some_iff.1 hi3).1
   rw [← Go.Deep.add_add,hat i hlt]
   exact hi3
  ·obtain ⟨i,hi2,rfl⟩:=List.mem_map.1 hs
   exact (hf i (List.mem_range.1 hi2)).1
instance:Inhabited S35:=⟨z35⟩
instance:Inhabited S37:=⟨z37⟩
instance:Inhabited S30:=⟨z30⟩
set_option maxRecDepth 100000 in
theorem read_block {fuel:Nat} {cs:List Value} {x:DataW H × List MemPlace} (hb:Rows.uptoBulk x.1≤1048576) (h:DataW.trod enc Try.prog W 0 spare held fuel 30 cs=some x):∃ s:S30,k30.K W s cs∧FitB s:=by
 obtain ⟨xs,n,_,hx,hl,hlen,hf⟩:=DataW.trod_struct Try.underlying30 h
 have hc:Try.prog.cellsOf 30=3:=by kernel_rfl
 have hc27:Try.prog.cellsOf 27=1:=by kernel_rfl
 have hc28:Try.prog.cellsOf 28=1:=by kernel_rfl
 have hc35:Try.prog.cellsOf 35=5:=by kernel_rfl
 have hc37:Try.prog.cellsOf 37=2:=by kernel_rfl
 rw [hc] at hl
 match cs,hl with
 | [c0,c1,c2],_ =>
  match xs,hlen with
  | [y0,y1,y2],_ =>
   have g0:DataW.trod enc Try.prog W 0 spare held n 27 (([c0,c1,c2].drop 0).take (Try.prog.cellsOf 27))=some y0:=hf 0 _ rfl
   have g1:DataW.trod enc Try.prog W 0 spare held n 27 (([c0,c1,c2].drop 1).take (Try.prog.cellsOf 27))=some y1:=hf 1 _ rfl
   have g2:DataW.trod enc Try.prog W 0 spare held n 28 (([c0,c1,c2].drop 2).take (Try.prog.cellsOf 28))=some y2:=hf 2 _ rfl
   rw [hx] at hb
   simp only [Rows.uptoBulk,List.map_cons,List.map_nil,Rows.uptoBulkAll] at hb
   rw [hc27] at g0 g1
   rw [hc28] at g2
   have hr5:∀ (n:Nat) (cs:List Value) (y:DataW H × List MemPlace),Rows.uptoBulk y.1≤1048576→DataW.trod enc Try.prog W 0 spare held n 35 cs=some y→∃ s:S35,k35.K W s cs∧fit5 s:=fun n cs y _ hy=>by
    obtain ⟨s,rfl,hs⟩:=read_step hy
    exact ⟨s,k35_mk W s,hs⟩
   have hr7:∀ (n:Nat) (cs:List Value) (y:DataW H × List MemPlace),Rows.uptoBulk y.1≤1048576→DataW.trod enc Try.prog W 0 spare held n 37 cs=some y→∃ s:S37,k37.K W s cs∧fit2 s:=fun n cs y _ hy=>by
    obtain ⟨s,rfl,hs⟩:=read_line hy
    exact ⟨s,k37_mk W s,hs⟩
   obtain ⟨A0,d0,l0,rfl,m0,r0,z0,w0⟩:=read_row k35 Try.underlying27 hc35 hr5 (x:=y0) (by omega) g0
   obtain ⟨A1,d1,l1,rfl,m1,r1,z1,w1⟩:=read_row k35 Try.underlying27 hc35 hr5 (x:=y1) (by omega) g1
   obtain ⟨A2,d2,l2,rfl,m2,r2,z2,w2⟩:=read_row k37 Try.underlying28 hc37 hr7 (x:=y2) (by omega) g2
   exact ⟨⟨l0,l1,l2⟩,k30_mk W ⟨l0,l1,l2⟩ m0 r0 m1 r1 m2 r2,⟨z0,z1,z2,w0,w1,w2⟩⟩
set_option maxRecDepth 100000 in
theorem read_program {v:Value} {d:DataW H} {p:List MemPlace} {r:Reach} {b0:Nat} (hv:Value.okWide Try.prog W r b0 24 v) (hb:Rows.uptoBulk d≤1048576) (h:DataW.Trod enc Try.prog W 0 spare held 24 v d p) :
  ∃ (A:Option Addr) (c:Nat) (bs:List S30),v=.agg #[.slice A bs.length c]∧bs.length≤c∧Kd.C k30 W A bs.length bs∧bs.length≤1048576∧∀ b ∈ bs,FitB b:=by
 obtain ⟨cs,rfl,hsz⟩:=okWide_struct Try.underlying24 hv
 have hc:Try.prog.cellsOf 24=1:=by kernel_rfl
 have hc22:Try.prog.cellsOf 22=1:=by kernel_rfl
 have hc30:Try.prog.cellsOf 30=3:=by kernel_rfl
 rw [hc] at hsz
 obtain ⟨l⟩:=cs
 match l,hsz with
 | [c0],_ =>
  obtain ⟨fuel,hf⟩:=h
  obtain ⟨xs,n,_,hx,hl,hlen,hff⟩:=DataW.trod_struct Try.underlying24 hf
  match xs,hlen with
  | [y0],_ =>
   have g0:DataW.trod enc Try.prog W 0 spare held n 22 ((((Value.agg #[c0]).cells.toList).drop 0).take (Try.prog.cellsOf 22))=some y0:=hff 0 _ rfl
   rw [hc22] at g0
   have hd:d=.agg [y0.1]:=by have:=congrArg Prod.fst hx;simpa using this
   rw [hd] at hb
   simp only [Rows.uptoBulk,Rows.uptoBulkAll] at hb
   have g0':DataW.trod enc Try.prog W 0 spare held n 22 [c0]=some y0:=by simpa [Value.cells] using g0
   obtain ⟨A0,d0,l0,rfl,m0,r0,z0,w0⟩:=read_row k30 Try.underlying22 hc30 (fun n cs y hy h=>read_block hy h) (x:=y0) (by omega) g0'
   exact ⟨A0,d0,l0,rfl,m0,r0,z0,w0⟩
end
end Go.Proofs.Ytedghbjmhcgilaa.A
end
section
namespace Go.Proofs.Ytedghbjmhcgilaa.A
open Go.RowKit Go.Proofs.YtedghbjmhcgilaaW.PrintWords Go.Proofs.YtedghbjmhcgilaaW.PrintLast Go.Proofs.YtedghbjmhcgilaaW.PrintMore
open Go.Proofs.Ytedghbjmhcgilaa.POpt
section
variable (a b:List S35) (c:List S37)
theorem same_l2 (hc:c.length≤1048576) (p:Nat):∀ i:Nat,i+p=c.length→rgSameBlock.l2 (p+1) (i:Int) a b c a b c=some true:=by
 induction p with
 | zero=>intro i hi;rw [rgSameBlock.l2,if_neg (by omega)]
 | succ p ih =>
  intro i hi
  rw [rgSameBlock.l2,if_pos (by omega),if_pos (by omega),if_pos (by omega),if_neg (by simp),show wrap64 ((i:Int)+1)=((i+1:Nat):Int) by rw [w64i (by omega)];omega]
  exact ih (i+1) (by omega)
theorem same_l1 (hb:b.length≤1048576) (hc:c.length≤1048576) (p:Nat):∀ i:Nat,i+p=b.length→rgSameBlock.l1 (p+(c.length+1)+1) (i:Int) a b c a b c=some true:=by
 induction p with
 | zero =>
  intro i hi
  rw [rgSameBlock.l1,if_neg (by omega)]
  have:=same_l2 a b c hc c.length 0 (by omega)
  rw [Nat.zero_add];exact this
 | succ p ih =>
  intro i hi
  rw [rgSameBlock.l1,if_pos (by omega),if_pos (by omega),if_pos (by omega),if_neg (by simp),show wrap64 ((i:Int)+1)=((i+1:Nat):Int) by rw [w64i (by omega)];omega]
  have:=ih (i+1) (by omega)
  rw [show p+1+(c.length+1)=p+(c.length+1)+1 by omega];exact this
theorem same_l0 (ha:a.length≤1048576) (hb:b.length≤1048576) (hc:c.length≤1048576) (p:Nat):∀ i:Nat,i+p=a.length→rgSameBlock.l0 (p+(b.length+(c.length+1)+1)+1) (i:Int) a b c a b c=some true:=by
 induction p with
 | zero =>
  intro i hi
  rw [rgSameBlock.l0,if_neg (by omega)]
  have:=same_l1 a b c hb hc b.length 0 (by omega)
  rw [Nat.zero_add];exact this
 | succ p ih =>
  intro i hi
  rw [rgSameBlock.l0,if_pos (by omega),if_pos (by omega),if_pos (by omega),if_neg (by simp),show wrap64 ((i:Int)+1)=((i+1:Nat):Int) by rw [w64i (by omega)];omega]
  have:=ih (i+1) (by omega)
  rw [show p+1+(b.length+(c.length+1)+1)=p+(b.length+(c.length+1)+1)+1 by omega];exact this
theorem same_refl (ha:a.length≤1048576) (hb:b.length≤1048576) (hc:c.length≤1048576):∃ k,lwsame.f k a b c a b c=some true:=by
 refine ⟨a.length+(b.length+(c.length+1)+1)+1+1,?_⟩
 unfold lwsame.f rgSameBlock.f
 rw [if_pos rfl,if_pos rfl,rgSameBlock.j0,if_neg (by simp)]
 have:=same_l0 a b c ha hb hc a.length 0 (by omega)
 simp only [Int.natCast_zero] at this
 rw [this];rfl
end
theorem isTag_small {a:Int} (ha:a≤9223372036854775807) (h:N.isTagB a=true):0≤a∧a≤4611686018427387904:=by
 have h1:=N.isTagB_f a
 rw [h] at h1
 unfold rgisTag.f at h1
 split at h1
 ·next h8 =>
  refine ⟨by omega,?_⟩
  have hd:Int.tdiv a 8=a / 8:=Int.tdiv_eq_ediv_of_nonneg (by omega)
  rw [hd,w64i (by omega),N.isFieldB_f] at h1
  simp only [Option.bind_some] at h1
  split at h1
  ·next hf =>
   unfold N.isFieldB at hf
   simp only [Bool.and_eq_true,decide_eq_true_eq] at hf
   omega
  ·cases h1
 ·cases h1
theorem tag_ok {bs:List S30} {l:List S35} (hw:∀ x ∈ l,wfI x.f1) (h:∀ x ∈ l,numS bs x=true):tagB l=true:=by
 rw [tagB_iff]
 intro x hx h2
 have h1:=h x hx
 unfold numS N.numB at h1
 split at h1
 ·cases h1
 ·unfold N.bodyB at h1
  rw [if_pos h2] at h1
  exact isTag_small (wf_in (hw x hx)).2 h1
end Go.Proofs.Ytedghbjmhcgilaa.A
end
section
namespace Go.Proofs.Ytedghbjmhcgilaa.A
open Go.RowKit Go.Shelf Go.Proofs.YtedghbjmhcgilaaW.PrintWords Go.Proofs.YtedghbjmhcgilaaW.PrintLast Go.Proofs.YtedghbjmhcgilaaW.PrintMore
open Go.Proofs.Ytedghbjmhcgilaa.POpt
def ref4 (n:Nat) (k:Nat) (b:Out3):Option Out3 :=
 match n with
 | 0=>rfTables.f k b.1 b.2.1 b.2.2
 | 1=>rfFuse.f k b.1 b.2.1 b.2.2
 | 2=>rfThread.f k b.1 b.2.1 b.2.2
 | 3=>rfTrim.f k b.1 b.2.1 b.2.2
 | _=>rfBlock.f k b.1 b.2.1 b.2.2
theorem ref4_up {n k m:Nat} {b v:Out3} (h:ref4 n k b=some v) (hle:k≤m):ref4 n m b=some v:=by
 refine up (f:=fun k=>ref4 n k b) (fun k=>?_) h hle
 match n with
 | 0=>exact rfTables.mono _ _ _ k
 | 1=>exact rfFuse.mono _ _ _ k
 | 2=>exact rfThread.mono _ _ _ k
 | 3=>exact rfTrim.mono _ _ _ k
 | _+4=>exact rfBlock.mono _ _ _ k
def own4 (n:Nat) (k:Nat) (b:Out3):Option Out3 :=
 match n with
 | 0=>TablesF b.1 b.2.1 b.2.2
 | 1=>FuseF b.1 b.2.1 b.2.2
 | 2=>ThreadF b.1 b.2.1 b.2.2
 | 3=>TrimF k b.1 b.2.1 b.2.2
 | _=>BlockF k b.1 b.2.1 b.2.2
theorem own4_up {n k m:Nat} {b v:Out3} (h:own4 n k b=some v) (hle:k≤m):own4 n m b=some v:=by
 match n with
 | 0=>exact h
 | 1=>exact h
 | 2=>exact h
 | 3=>exact up (f:=fun k=>TrimF k b.1 b.2.1 b.2.2) (fun k=>TrimF_mono _ _ _ k) h hle
 | _+4=>exact up (f:=fun k=>BlockF k b.1 b.2.1 b.2.2) (fun k=>BlockF_mono _ _ _ k) h hle
def Alike (n:Nat) (b:Out3):Prop:=∃ k v,own4 n k b=some v∧ref4 n k b=some v∧v.1.length≤1048576∧v.2.1.length≤1048576∧v.2.2.length≤1048576
theorem trim_alike {b:Out3} (h:PB b) (hg:GoodD b.1 b.2.2) (hge:GoodE b.2.1):Alike 3 b:=by
 have hn0:=h.n0;have hn1:=h.n1;have hn2:=h.n2
 obtain ⟨kt,v,hM,m0,m1,m2⟩:=trimF_some h
 have hp:=hg.pos
 have hM':=hM
 unfold TrimF at hM'
 rw [if_pos h.ok,if_neg (by omega)] at hM'
 cases h0:opt_reached.f kt b.1 b.2.2 with
 | none=>rw [h0] at hM';cases hM'
 | some r0 =>
  rw [h0,Option.bind_some] at hM'
  cases h1:opt_reached.f kt b.2.1 [] with
  | none=>rw [h1] at hM';cases hM'
  | some r1 =>
   rw [h1,Option.bind_some] at hM'
   split at hM'
   ·injection hM' with hv
    obtain ⟨kr,hk⟩:=refTrim hg hge hn0 hn1 hn2 (reached_is (by omega) h0) (reached_is (by simp) h1)
    rw [hv] at hk
    exact ⟨max kt kr,v,own4_up (n:=3) (b:=b) hM (Nat.le_max_left _ _),ref4_up (n:=3) (b:=b) hk (Nat.le_max_right _ _),by omega,by omega,by omega⟩
   ·cases hM'
theorem good_alike {b:Out3} (h:PB b) (ht:tagB b.1=true) (hg:GoodD b.1 b.2.2) (hge:GoodE b.2.1):∀ n,Alike n b:=by
 have h1:=h.tables
 have g1:GoodD (tabP b.1 b.2.2).1 (tabP b.1 b.2.2).2:=tabP_good hg
 have h2:=h1.fuse
 have g2:GoodD (fuseP (tabP b.1 b.2.2).1 (tabP b.1 b.2.2).2).1 (fuseP (tabP b.1 b.2.2).1 (tabP b.1 b.2.2).2).2:=fuseP_good g1
 have e2:GoodE (fuseP b.2.1 []).1:=fuseP_goodE hge
 have h3:=h2.thread
 have g3:=thr_good g2
 obtain ⟨k0,r0⟩:=refTables (e:=b.2.1) hg h.n0 h.n1 h.n2
 intro n
 match n with
 | 0=>exact ⟨k0,_,(by show TablesF _ _ _=_;unfold TablesF;rw [if_pos h.ok,if_pos ht]),r0,h1.n0,h1.n1,h1.n2⟩
 | 1 =>
  obtain ⟨k,hk⟩:=refFuse hg hge h.n0 h.n1 h.n2
  have hp:=h.fuse
  exact ⟨k,_,(by show FuseF _ _ _=_;unfold FuseF;rw [if_pos h.ok]),hk,hp.n0,hp.n1,hp.n2⟩
 | 2 =>
  obtain ⟨k,hk⟩:=refThread (e:=b.2.1) hg h.n0 h.n1 h.n2
  have hp:=h.thread
  exact ⟨k,_,(by show ThreadF _ _ _=_;unfold ThreadF;rw [if_pos h.ok]),hk,hp.n0,hp.n1,hp.n2⟩
 | 3=>exact trim_alike h hg hge
 | n+4 =>
  obtain ⟨k1,r1⟩:=refFuse g1 hge h1.n0 h1.n1 h1.n2
  obtain ⟨k2,r2⟩:=refThread (e:=(fuseP b.2.1 []).1) g2 h2.n0 h2.n1 h2.n2
  obtain ⟨k3,v,o3,r3,m0,m1,m2⟩:=trim_alike h3 g3 e2
  refine ⟨max (max k0 k1) (max k2 k3),v,?_,?_,m0,m1,m2⟩
  ·show BlockF _ _ _ _=_
   unfold BlockF TablesF FuseF ThreadF
   rw [if_pos h.ok,if_pos ht]
   simp only [Option.bind_some]
   rw [if_pos h1.ok]
   simp only [Option.bind_some]
   rw [if_pos h2.ok]
   simp only [Option.bind_some]
   exact own4_up (n:=3) (b:=(_,_,_)) o3 (by omega)
  ·show rfBlock.f _ _ _ _=_
   have q0:=ref4_up (n:=0) (b:=b) (m:=max (max k0 k1) (max k2 k3)) r0 (by omega)
   have q1:=ref4_up (n:=1) (b:=((tabP b.1 b.2.2).1,b.2.1,(tabP b.1 b.2.2).2)) (m:=max (max k0 k1) (max k2 k3)) r1 (by omega)
   have q2:=ref4_up (n:=2) (b:=((fuseP (tabP b.1 b.2.2).1 (tabP b.1 b.2.2).2).1,(fuseP b.2.1 []).1,(fuseP (tabP b.1 b.2.2).1 (tabP b.1 b.2.2).2).2)) (m:=max (max k0 k1) (max k2 k3)) r2 (by omega)
   have q3:=ref4_up (m:=max (max k0 k1) (max k2 k3)) r3 (by omega)
   simp only [ref4] at q0 q1 q2 q3
   unfold rfBlock.f
   rw [isEnum_no hg.pos]
   simp only [Option.bind_some]
   rw [if_neg (by simp),q0]
   simp only [Option.bind_some]
   rw [q1]
   simp only [Option.bind_some]
   rw [q2]
   simp only [Option.bind_some]
   rw [q3]
   rfl
theorem toNow_nil (op c:Int):toNow [] 0 op c=c:=by
 unfold toNow nowAt
 rw [if_neg (by omega)];rfl
theorem rows_same {φ:Int→Int→Int} (h:∀ c,φ 3 c=c) (r:List S37):r.map (placedR φ)=r:=by
 have:placedR φ=id:=by funext y;unfold placedR;rw [h];rfl
 rw [this,List.map_id]
theorem enum_alike {r:List S37} (h:PB ([],[],r)):∀ n,Alike n ([],[],r):=by
 have hr:=h.n2
 have hcp:=copied_ok (l:=[]) (e:=[]) (r:=r) (by simp) (by simp) hr
 have hen:=isEnum_yes (l:=[]) (e:=[]) (r:=r) rfl rfl
 have tT:TablesF [] [] r=some ([],[],r):=by
  unfold TablesF tabP
  rw [if_pos h.ok,if_pos (by rfl),if_pos (.inr (.inl (by simp)))]
 have tF:FuseF [] [] r=some ([],[],r):=by
  unfold FuseF
  rw [if_pos h.ok]
  have e1:(fuseP [] r).1=[]:=rfl
  have e2:(fuseP [] r).2=r:=rows_same (fun c=>toNow_nil 3 c) r
  rw [e1,e2];rfl
 have tH:ThreadF [] [] r=some ([],[],r):=by
  unfold ThreadF
  rw [if_pos h.ok,rows_same (fun c=>rfl)];rfl
 have tM:∀ k,TrimF k [] [] r=some ([],[],r):=by
  intro k
  unfold TrimF
  rw [if_pos h.ok,if_pos ⟨rfl,rfl⟩]
 intro n
 match n with
 | 0 =>
  refine ⟨1,_,tT,?_,by simp,by simp,hr⟩
  show rfTables.f 1 [] [] r=_
  unfold rfTables.f
  rw [hcp]
  simp only [Option.bind_some]
  by_cases h1:(r.length:Int) > 0
  ·rw [if_pos h1,rfTables.j0,if_pos rfl]
  ·rw [if_neg h1,if_pos (by simp),rfTables.j0,if_pos rfl]
 | 1 =>
  refine ⟨1,_,tF,?_,by simp,by simp,hr⟩
  show rfFuse.f 1 [] [] r=_
  unfold rfFuse.f
  rw [hen,Option.bind_some,if_pos rfl,hcp];rfl
 | 2 =>
  refine ⟨1,_,tH,?_,by simp,by simp,hr⟩
  show rfThread.f 1 [] [] r=_
  unfold rfThread.f
  rw [hen,hcp];rfl
 | 3 =>
  refine ⟨1,_,tM 1,?_,by simp,by simp,hr⟩
  show rfTrim.f 1 [] [] r=_
  unfold rfTrim.f
  rw [hen,Option.bind_some,if_pos rfl,hcp];rfl
 | n+4 =>
  refine ⟨1,([],[],r),?_,?_,by simp,by simp,hr⟩
  ·show BlockF 1 [] [] r=_
   unfold BlockF
   rw [tT,Option.bind_some,tF,Option.bind_some,tH,Option.bind_some]
   exact tM 1
  ·show rfBlock.f 1 [] [] r=_
   unfold rfBlock.f
   rw [hen,Option.bind_some,if_pos rfl,hcp];rfl
theorem same_up {k m:Nat} {a b d e:List S35} {c f:List S37} {v:Bool} (h:lwsame.f k a b c d e f=some v) (hle:k≤m):lwsame.f m a b c d e f=some v:=up (f:=fun k=>lwsame.f k a b c d e f) (fun k=>lwsame.mono _ _ _ _ _ _ k) h hle
theorem alike_all {b:Out3} (h:∀ n,Alike n b):∃ K v0 v1 v2 v3 v4,(own4 0 K b=some v0∧ref4 0 K b=some v0∧lwsame.f K v0.1 v0.2.1 v0.2.2 v0.1 v0.2.1 v0.2.2=some true)∧(own4 1 K b=some v1∧ref4 1 K b=some v1∧lwsame.f K v1.1 v1.2.1 v1.2.2 v1.1 v1.2.1 v1.2.2=some true) ∧
  (own4 2 K b=some v2∧ref4 2 K b=some v2∧lwsame.f K v2.1 v2.2.1 v2.2.2 v2.1 v2.2.1 v2.2.2=some true)∧(own4 3 K b=some v3∧ref4 3 K b=some v3∧lwsame.f K v3.1 v3.2.1 v3.2.2 v3.1 v3.2.1 v3.2.2=some true) ∧
  (own4 4 K b=some v4∧ref4 4 K b=some v4∧lwsame.f K v4.1 v4.2.1 v4.2.2 v4.1 v4.2.1 v4.2.2=some true):=by
 have one:∀ n,∃ K v,∀ M,K≤M→own4 n M b=some v∧ref4 n M b=some v∧lwsame.f M v.1 v.2.1 v.2.2 v.1 v.2.1 v.2.2=some true:=by
  intro n
  obtain ⟨k,v,h1,h2,h3,h4,h5⟩:=h n
  obtain ⟨ks,hs⟩:=same_refl v.1 v.2.1 v.2.2 h3 h4 h5
  exact ⟨max k ks,v,fun M hM=>⟨own4_up h1 (by omega),ref4_up h2 (by omega),same_up hs (by omega)⟩⟩
 obtain ⟨k0,v0,a0⟩:=one 0
 obtain ⟨k1,v1,a1⟩:=one 1
 obtain ⟨k2,v2,a2⟩:=one 2
 obtain ⟨k3,v3,a3⟩:=one 3
 obtain ⟨k4,v4,a4⟩:=one 4
 exact ⟨k0+k1+k2+k3+k4,v0,v1,v2,v3,v4,a0 _ (by omega),a1 _ (by omega),a2 _ (by omega),a3 _ (by omega),a4 _ (by omega)⟩
theorem passes_law (bs:List S30) (index:Int) (hn:bs.length≤1048576) (hf:∀ b ∈ bs,FitB b):∃ K,lwOptPasses.f K bs index=some true:=by
 obtain ⟨kv,r,hk,hv⟩:=valid_total bs hn (fun b hb=>⟨(hf b hb).n0,(hf b hb).n1,(hf b hb).n2⟩)
 have aw:∀ M,200≤M→lwawake.f M=some true:=fun M hM=>up (f:=lwawake.f) (fun k=>lwawake.mono k) awake_true hM
 have va:∀ M,kv≤M→rgValid.f M bs=some r:=fun M hM=>up (f:=fun k=>rgValid.f k bs) (fun k=>rgValid.mono _ k) hk hM
 have out:∀ M (i:Int),lwOptPasses.j0 (M+1) i true bs=some true:=fun M i=>by rw [lwOptPasses.j0,if_pos rfl]
 cases hr:r with
 | false =>
  refine ⟨200+kv+1,?_⟩
  unfold lwOptPasses.f
  rw [aw _ (by omega),Option.bind_some,if_pos rfl,va _ (by omega),hr,Option.bind_some,if_neg (by simp)]
  exact out _ _
 | true =>
  by_cases hneg:index < 0
  ·refine ⟨200+kv+1,?_⟩
   unfold lwOptPasses.f
   rw [aw _ (by omega),Option.bind_some,if_pos rfl,va _ (by omega),hr,Option.bind_some,if_pos rfl,if_pos hneg]
   exact out _ _
  by_cases hge:(bs.length:Int)≤index
  ·refine ⟨200+kv+1,?_⟩
   unfold lwOptPasses.f
   rw [aw _ (by omega),Option.bind_some,if_pos rfl,va _ (by omega),hr,Option.bind_some,if_pos rfl,if_neg hneg,decide_eq_true (show index ≥ (bs.length:Int) from hge)]
   exact out _ _
  obtain ⟨i,rfl⟩:∃ i:Nat,index=(i:Int):=⟨index.toNat,by omega⟩
  have hi:i < bs.length:=by omega
  have e:rdP bs (i:Int)=bs[i]:=by simp [rdP,hi]
  have F:=hf _ (List.getElem_mem hi)
  have O:=hv hr _ (List.getElem_mem hi)
  have hPB:PB (bs[i].f0,bs[i].f1,bs[i].f2):=⟨F.n0,F.n1,F.n2,fun x hx=>⟨(F.w0 x hx).2.1,(F.w0 x hx).2.2.1⟩,fun x hx=>⟨(F.w1 x hx).2.1,(F.w1 x hx).2.2.1⟩,fun y hy=>(F.w2 y hy).2⟩
  have all:∀ n,Alike n (bs[i].f0,bs[i].f1,bs[i].f2):=by
   rcases O.or with ⟨_,hd,he⟩ | ⟨h0,h1,_⟩
   ·exact good_alike hPB (tag_ok (fun x hx=>(F.w0 x hx).2.1) hd.num) hd.good he.good
   ·have e0:bs[i].f0=[]:=List.eq_nil_of_length_eq_zero h0
    have e1:bs[i].f1=[]:=List.eq_nil_of_length_eq_zero h1
    rw [e0,e1] at hPB ⊢
    exact enum_alike hPB
  obtain ⟨K,v0,v1,v2,v3,v4,⟨o0,r0,s0⟩,⟨o1,r1,s1⟩,⟨o2,r2,s2⟩,⟨o3,r3,s3⟩,⟨o4,r4,s4⟩⟩:=alike_all all
  have upO:=fun n v (h:own4 n K (bs[i].f0,bs[i].f1,bs[i].f2)=some v)=>own4_up h (show K≤200+kv+K by omega)
  have upR:=fun n v (h:ref4 n K (bs[i].f0,bs[i].f1,bs[i].f2)=some v)=>ref4_up h (show K≤200+kv+K by omega)
  have o0:opt_Tables.f bs[i].f0 bs[i].f1 bs[i].f2=some v0:=o0
  have o1:opt_Fuse.f bs[i].f0 bs[i].f1 bs[i].f2=some v1:=o1
  have o2:POpt.opt_Thread.f bs[i].f0 bs[i].f1 bs[i].f2=some v2:=o2
  have o3:opt_Trim.f (200+kv+K) bs[i].f0 bs[i].f1 bs[i].f2=some v3:=upO 3 _ o3
  have o4:opt_Block.f (200+kv+K) bs[i].f0 bs[i].f1 bs[i].f2=some v4:=upO 4 _ o4
  have r0:rfTables.f (200+kv+K) bs[i].f0 bs[i].f1 bs[i].f2=some v0:=upR 0 _ r0
  have r1:rfFuse.f (200+kv+K) bs[i].f0 bs[i].f1 bs[i].f2=some v1:=upR 1 _ r1
  have r2:rfThread.f (200+kv+K) bs[i].f0 bs[i].f1 bs[i].f2=some v2:=upR 2 _ r2
  have r3:rfTrim.f (200+kv+K) bs[i].f0 bs[i].f1 bs[i].f2=some v3:=upR 3 _ r3
  have r4:rfBlock.f (200+kv+K) bs[i].f0 bs[i].f1 bs[i].f2=some v4:=upR 4 _ r4
  have sU:=fun (v:Out3) (h:lwsame.f K v.1 v.2.1 v.2.2 v.1 v.2.1 v.2.2=some true)=>same_up h (show K≤200+kv+K by omega)
  refine ⟨200+kv+K+1,?_⟩
  unfold lwOptPasses.f
  rw [aw _ (by omega),Option.bind_some,if_pos rfl,va _ (by omega),hr,Option.bind_some,if_pos rfl,if_neg hneg,decide_eq_false (show ¬ ((i:Int) ≥ (bs.length:Int)) by omega),lwOptPasses.j0,if_neg (by simp),if_pos (by omega),if_pos (by omega),e]
  rw [o0,Option.bind_some,r0,Option.bind_some,sU _ s0,Option.bind_some,if_pos rfl]
  rw [o1,Option.bind_some,r1,Option.bind_some,sU _ s1,Option.bind_some,if_pos rfl]
  rw [o2,Option.bind_some,r2,Option.bind_some,sU _ s2,Option.bind_some,if_pos rfl]
  rw [o3,Option.bind_some,r3,Option.bind_some,sU _ s3,Option.bind_some,if_pos rfl]
  rw [o4,Option.bind_some,r4,Option.bind_some,sU _ s4,Option.bind_some]
end Go.Proofs.Ytedghbjmhcgilaa.A
end
section
namespace Go.Proofs.Ytedghbjmhcgilaa.A
open Go.ChangeShapes Go.WideShapes Go.ChangeAt Go.RowKit
theorem ownP:ownKnob Try.prog.godebug=none:=by kernel_rfl
theorem laidOutP:laidOutB Try.prog=true:=by kernel_rfl
set_option maxRecDepth 100000 in
theorem passes_contract (H:Type) (enc:TypeId × Value→H) (W:World) (base:Nat) (args:Array Value) (ds gs:List (DataW H)) (before:List MemPlace)
  (hval:∀ (j:Nat) t v,Try.f3.params[j]?=some t→args[j]?=some v→Value.okWide Try.prog W .any base t v)
  (hW:DataW.Whole enc Try.prog Try.f3.params.toList Rows.optPassesSpec.vars false W args.toList ds gs before) (hk:Rows.uptoSmall H (ds ++ gs)=true) :
  Calls Try.prog 3 args W fun e W'=>∃ v,e=.returned v∧Rows.optPassesSpec.post enc Try.prog Try.f3 false true false false W args v W':=by
 have hW':=hW
 obtain ⟨p,q,hA0,hV,rfl,hfz,hnd⟩:=hW
 have hA:DataW.TrodAll enc Try.prog W 0 (fun _=>true) true Try.f3.params.toList args.toList ds p:=hA0
 rw [Try.params3] at hA hval
 obtain ⟨v0,v1,d0,d1,p0,p1,hargs,rfl,rfl,h0,h1⟩:=trodAll_two hA
 obtain rfl:args=#[v0,v1]:=by cases args;simp_all
 obtain ⟨rfl,rfl⟩:=trodVars_none hV
 have hbulk:Rows.uptoBulk d0≤1048576:=by
  have h:Rows.uptoBulkAll ([d0,d1] ++ [])≤1048576:=of_decide_eq_true hk
  simp only [List.append_nil,Rows.uptoBulkAll] at h
  omega
 obtain ⟨b,rfl,rfl,rfl,wb⟩:=open_int Try.underlying3 (hval 1 3 v1 rfl rfl) h1
 obtain ⟨A,c,bs,e0,hc,hr,hn,hf⟩:=read_program (hval 0 24 v0 rfl rfl) hbulk h0
 subst e0
 clear hA0
 simp only [List.append_nil] at hW'
 have hlt:∀ x ∈ p0,x.block < W.heap.size:=fun x hx=>by have:=hW'.lt x (by simp [hx]);simpa using this
 obtain ⟨K,hK⟩:=passes_law bs b hn hf
 refine (POpt.lwOptPasses.calls K A c bs b true W hr hc hK rfl).mono fun e W' ⟨he,hb⟩=>?_
 subst he
 exact ⟨_,rfl,⟨_,_,_,[],p0 ++ [],[],hW',trodAll_mk1 (shut_bool Try.underlying4 _),trodAll_mk2 (Below.trod laidOutP (by kernel_rfl) (of_decide_eq_true (by kernel_rfl)) h0 hb hlt) (shut_int Try.underlying3 wb),rfl,hb.frame _,fun h=>by cases h⟩⟩
set_option maxRecDepth 100000 in
theorem passes_lifted (os:Os) (started:os.Started) (H:Type) (enc:TypeId × Value→H) (F:Stop.Interp) :
  ReturnsInHanded {} Try.checked os 3 .any ((Rows.OpenSpec.upto Rows.optPassesSpec).pre6 enc Try.prog Try.f3 Rows.optPassesUptoRow.domain false) (((Rows.OpenSpec.upto Rows.optPassesSpec).at F).post enc Try.prog Try.f3 false true false false):=by
 refine returnsInHanded_of_cond (C:=Try.checked) (s:=Rows.OpenSpec.upto Rows.optPassesSpec) (k:=Rows.uptoSmall) rfl ownP started (by kernel_rfl) Try.func3
  (OpenSpec.witness (enc:=enc) (C:=Try.checked) (s:=Rows.OpenSpec.upto Rows.optPassesSpec) (k:=Rows.uptoSmall) rfl false ⟨#[],#[.agg #[.slice none 0 0],.int .i64 0],[]⟩ 8 (by kernel_rfl) (by kernel_rfl) (by kernel_rfl)
   (x:=([.agg [.nil],.lit (.int .i64 0)],[],[])) (by kernel_rfl) rfl (by kernel_rfl)) ?_
 intro W base args ds gs before hval hW _ hk _
 exact passes_contract H enc W base args ds gs before hval hW hk
theorem passes_proved:Rows.OptPassesUptoSaid :=
 OpenClaim.holds_of_cond 3 Try.f3 rfl rfl rfl rfl rfl rfl rfl ⟨rfl,rfl,rfl,rfl,rfl⟩ rfl rfl rfl rfl rfl (by kernel_rfl) Try.func3 (by kernel_rfl)
  (of_decide_eq_true (by kernel_rfl)) (by unfold Func.isWrapper;first | (rw [if_pos (by decide +kernel)];kernel_rfl) | (rw [if_neg (by decide +kernel)];exact ⟨rfl,rfl⟩))
  (fun os started H enc _ F=>passes_lifted os started H enc F)
#print axioms passes_proved
end Go.Proofs.Ytedghbjmhcgilaa.A
end
