import Derived.WalkMore
import Derived.ArgAppend
import Derived.Below
import Derived.BigQuiet
import Derived.Deep.AppendLies
import Derived.Deep.CutBlock
import Derived.Deep.DeepCutAuto
import Derived.Deep.Draws
import Derived.Deep.LoopGhost
import Derived.Deep.OwnRows
import Derived.Deep.QuietTactic
import Derived.Deep.RegionHeld3
import Derived.KernelRfl
import Derived.Laws.BitsLemmas
import Derived.Laws.BytesArg
import Derived.Laws.IdiomCopy
import Derived.Laws.MakeOwn
import Derived.Laws.OwnMore
import Derived.Laws.Rows
import Derived.Laws.Slices
import Derived.Lib.AppendStr
import Derived.Lib.ConvBytes
import Derived.Maps.AppendAt
import Derived.OrdersHeld
import Derived.OwnWalk
import Derived.RowKit
import Derived.RowKit3
import Derived.Tactics
import Derived.WalkKit
import Derived.WideLaws
import Derived.Test.YtedghbjmhcgilaaProg
import Derived.Test.YtedghbjmhcgilaaKp2
import Derived.Test.YtedghbjmhcgilaaKp3
import Derived.Test.YtedghbjmhcgilaaKp4
set_option linter.unusedVariables false
set_option linter.unusedSimpArgs false
section
namespace Go.Proofs.YtedghbjmhcgilaaW.PrintWords
open Go.RowKit
namespace Kd
section
variable {P:Program} {ops:Array Oper} {rest:List Oper} {o:Oper} {a:Act} {Q:Exit→Act→World→Prop} {Kc:Act→World→Prop} {W:World} {α:Type}
theorem own_makecap {W:World} {base e size:Nat} (m:Nat) (cells:Array Value) (hsz:cells.size=m*size) (hbase:base≤W.heap.size) (hm:m≤9223372036854775807) :
  (W.alloc (.cells cells e)).ownsRow base e size (.slice (some ⟨W.heap.size,0,none⟩) 0 m) 0 []:=by
 have h2:=World.ownsRow_lit (base:=base) (e:=e) (size:=size) W cells m hbase (by simpa [maxLen] using hm) hsz
 have h3:=own_take h2 (Nat.zero_le m)
 simpa using h3
theorem R_capped (d:Kd α) {W:World} {base e:Nat} {ok:Nat→Prop} (m:Nat) (cells:Array Value) (hsz:cells.size=m*d.sz) (hbase:base≤W.heap.size) (hm:m≤9223372036854775807) (hfresh:ok W.heap.size) :
  d.R e (W.alloc (.cells cells e)) base ok (.slice (some ⟨W.heap.size,0,none⟩) 0 m) []:=by
 refine ⟨fun k hk=>?_,[],own_makecap m cells hsz hbase hm,Reps.none _ _⟩
 have:W.heap.size=k:=by simpa [Value.ownBlock] using hk
 subst this
 exact hfresh
theorem run_makecap {W:World} (t:TypeId) (e:TypeId) (z:Value) (size bytes:Nat) (ht:P.underlying t=some (.slice e)) (hinfo:(P.info? e).map (fun i=>(i.zero,i.size,i.bytes))=some (some z,size,bytes)) (hz:z.cells.size=size)
  (c:Int) (h0:0≤c) (hl:c.toNat*bytes≤281474976710656) (hb0:0 < bytes) :
  (Instr.makeSlice t (.int .i64 0) (.int .i64 c)).run P W=.ok (.slice (some ⟨W.heap.size,0,none⟩) 0 c.toNat) (W.alloc (.cells (madeCells z.cells (c.toNat*size)) e))∧(madeCells z.cells (c.toNat*size)).size=c.toNat*size∧c.toNat≤9223372036854775807:=by
 obtain ⟨m,rfl⟩:=Int.eq_ofNat_of_zero_le h0
 simp only [Int.toNat_natCast] at hl ⊢
 obtain ⟨i0,hi,hzz⟩:=Option.map_eq_some_iff.1 hinfo
 simp only [Prod.mk.injEq] at hzz
 obtain ⟨hz0,hz1,hz2⟩:=hzz
 have hm:m≤281474976710656:=Nat.le_trans (Nat.le_mul_of_pos_right _ hb0) hl
 have hr:=run_make (P:=P) W t e i0 z ht hi hz0 .i64 .i64 0 (m:Int) (by omega) (by omega)
  (by
   have h3:((i0.bytes*m:Nat):Int)≤281474976710656:=by rw [hz2,Nat.mul_comm];omega
   rwa [Int.natCast_mul] at h3) (by omega)
 simp only [Int.toNat_natCast] at hr
 rw [hz1] at hr
 exact ⟨hr,by simp [size_madeCells],by omega⟩
theorem R_makecap (d:Kd α) {w0 W:World} (base e:Nat) (hgd:o.guard=none) {N:Tmp} (hd:o.dst=some N) (t:TypeId) (x y:Operand) (ho:o.op=.makeSlice t x y) (c:Int) (hx:a.eval x=.int .i64 0) (hy:a.eval y=.int .i64 c)
  (ht:P.underlying t=some (.slice e)) (z:Value) (bytes:Nat) (hinfo:(P.info? e).map (fun i=>(i.zero,i.size,i.bytes))=some (some z,d.sz,bytes)) (hz:z.cells.size=d.sz) (hs0:0 < d.sz) (hb0:0 < bytes)
  (z0:α) {ok okp:Nat→Prop} (hzero:d.M W base okp z0 z.cells.toList) (hok:∀ k,okp k→ok k) (hfresh:ok W.heap.size) (h0:0≤c) (hl:c.toNat*bytes≤281474976710656) (HB:Below base w0 W) (hbase:base≤W.heap.size)
  (h:∀ v1 w1,d.R e w1 base ok v1 ([]:List α)→Below base w0 w1→W.grownBy w1 none→(∃ b,v1.ownBlock=some b∧W.heap.size≤b)→wpList P ops Q rest (a.put o.dst v1) w1):wpList P ops Q (o :: rest) a W:=by
 obtain ⟨hr,hs,hm⟩:=run_makecap (P:=P) (W:=W) t e z d.sz bytes ht hinfo hz c h0 hl hb0
 refine event_run hgd (by simp [execOp,ho,hx,hy,hr]) (h _ _ (R_capped d _ _ hs hbase hm hfresh) (HB.alloc hbase _) (World.grownBy_alloc W _ none) ⟨W.heap.size,by simp [Value.ownBlock],Nat.le_refl _⟩)
end
end Kd
end Go.Proofs.YtedghbjmhcgilaaW.PrintWords
end
section
namespace Go.Proofs.Ytedghbjmhcgilaa.POpt
open Go.RowKit Go.Proofs.YtedghbjmhcgilaaW.PrintWords Go.Proofs.YtedghbjmhcgilaaW.PrintLast Go.Proofs.YtedghbjmhcgilaaW.PrintMore
theorem info3:(Try.prog.info? 3).map (fun i=>(i.zero,i.size,i.bytes))=some (some (.int .i64 0),1,8):=by kernel_rfl
theorem info4:(Try.prog.info? 4).map (fun i=>(i.zero,i.size,i.bytes))=some (some (.bool false),1,1):=by kernel_rfl
theorem info35:(Try.prog.info? 35).map (fun i=>(i.zero,i.size,i.bytes))=some (some (.agg #[(.int .i64 0),(.int .i64 0),(.int .i64 0),(.int .i64 0),(.int .i64 0)]),5,40):=by kernel_rfl
theorem info37:(Try.prog.info? 37).map (fun i=>(i.zero,i.size,i.bytes))=some (some (.agg #[(.int .i64 0),(.int .i64 0)]),2,16):=by kernel_rfl
structure S35 where
 f0:Int
 f1:Int
 f2:Int
 f3:Int
 f4:Int
def z35:S35:=⟨(0:Int),(0:Int),(0:Int),(0:Int),(0:Int)⟩
def k35:Kd S35:=Kd.iso (Kd.pair (Kd.int .i64) (Kd.pair (Kd.int .i64) (Kd.pair (Kd.int .i64) (Kd.pair (Kd.int .i64) (Kd.int .i64))))) (fun x:S35=>(x.f0,x.f1,x.f2,x.f3,x.f4))
theorem k35_open {w:World} {x:S35} {cs:List Value} (h:k35.K w x cs):cs=[.int .i64 x.f0,.int .i64 x.f1,.int .i64 x.f2,.int .i64 x.f3,.int .i64 x.f4]:=by
 obtain ⟨_,_,rfl,rfl,⟨_,_,rfl,rfl,⟨_,_,rfl,rfl,⟨_,_,rfl,rfl,rfl⟩⟩⟩⟩:=h
 exact rfl
theorem k35_openM {w:World} {base:Nat} {ok:Nat→Prop} {x:S35} {cs:List Value} (h:k35.M w base ok x cs):cs=[.int .i64 x.f0,.int .i64 x.f1,.int .i64 x.f2,.int .i64 x.f3,.int .i64 x.f4]:=by
 obtain ⟨_,_,rfl,rfl,⟨_,_,rfl,rfl,⟨_,_,rfl,rfl,⟨_,_,rfl,rfl,rfl⟩⟩⟩⟩:=h
 exact rfl
theorem k35_mk (w:World) (x:S35) :k35.K w x [.int .i64 x.f0,.int .i64 x.f1,.int .i64 x.f2,.int .i64 x.f3,.int .i64 x.f4]:=⟨[.int .i64 x.f0],[.int .i64 x.f1,.int .i64 x.f2,.int .i64 x.f3,.int .i64 x.f4],rfl,rfl,⟨[.int .i64 x.f1],[.int .i64 x.f2,.int .i64 x.f3,.int .i64 x.f4],rfl,rfl,⟨[.int .i64 x.f2],[.int .i64 x.f3,.int .i64 x.f4],rfl,rfl,⟨[.int .i64 x.f3],[.int .i64 x.f4],rfl,rfl,rfl⟩⟩⟩⟩
theorem k35_mkM (w:World) (base:Nat) (ok:Nat→Prop) (x:S35) :k35.M w base ok x [.int .i64 x.f0,.int .i64 x.f1,.int .i64 x.f2,.int .i64 x.f3,.int .i64 x.f4]:=⟨[.int .i64 x.f0],[.int .i64 x.f1,.int .i64 x.f2,.int .i64 x.f3,.int .i64 x.f4],rfl,rfl,⟨[.int .i64 x.f1],[.int .i64 x.f2,.int .i64 x.f3,.int .i64 x.f4],rfl,rfl,⟨[.int .i64 x.f2],[.int .i64 x.f3,.int .i64 x.f4],rfl,rfl,⟨[.int .i64 x.f3],[.int .i64 x.f4],rfl,rfl,rfl⟩⟩⟩⟩
def rdQ (xs:List S35) (i:Int):S35:=xs.getD i.toNat z35
theorem at_T35 {w:World} {A:Option Addr} {n:Nat} {xs:List S35} (h:Kd.C k35 w A n xs) (i:Int) (h0:0≤i) (h1:i < n):∃ ad ,A=some ad∧w.cell? (ad.add (i.toNat*5))=some (.int .i64 (rdQ xs i).f0)∧w.cell? ⟨(ad.add (i.toNat*5)).block,(ad.add (i.toNat*5)).off+1,none⟩=some (.int .i64 (rdQ xs i).f1)∧w.cell? ⟨(ad.add (i.toNat*5)).block,(ad.add (i.toNat*5)).off+2,none⟩=some (.int .i64 (rdQ xs i).f2)∧w.cell? ⟨(ad.add (i.toNat*5)).block,(ad.add (i.toNat*5)).off+3,none⟩=some (.int .i64 (rdQ xs i).f3)∧w.cell? ⟨(ad.add (i.toNat*5)).block,(ad.add (i.toNat*5)).off+4,none⟩=some (.int .i64 (rdQ xs i).f4):=by
 obtain ⟨ad,c,e,_,hK,hc0⟩:=Kd.C_get h z35 i h0 h1
 have hc:∀ j u,c[j]?=some u→w.cell? (ad.add (i.toNat*5+j))=some u:=hc0
 obtain rfl:=k35_open hK
 exact ⟨ad,e,hc 0 _ rfl,by rw [← add_field _ _ 1 (by omega)];exact hc 1 _ rfl,by rw [← add_field _ _ 2 (by omega)];exact hc 2 _ rfl,by rw [← add_field _ _ 3 (by omega)];exact hc 3 _ rfl,by rw [← add_field _ _ 4 (by omega)];exact hc 4 _ rfl⟩
structure S37 where
 f0:Int
 f1:Int
def z37:S37:=⟨(0:Int),(0:Int)⟩
def k37:Kd S37:=Kd.iso (Kd.pair (Kd.int .i64) (Kd.int .i64)) (fun x:S37=>(x.f0,x.f1))
theorem k37_open {w:World} {x:S37} {cs:List Value} (h:k37.K w x cs):cs=[.int .i64 x.f0,.int .i64 x.f1]:=by
 obtain ⟨_,_,rfl,rfl,rfl⟩:=h
 exact rfl
theorem k37_openM {w:World} {base:Nat} {ok:Nat→Prop} {x:S37} {cs:List Value} (h:k37.M w base ok x cs):cs=[.int .i64 x.f0,.int .i64 x.f1]:=by
 obtain ⟨_,_,rfl,rfl,rfl⟩:=h
 exact rfl
theorem k37_mk (w:World) (x:S37) :k37.K w x [.int .i64 x.f0,.int .i64 x.f1]:=⟨[.int .i64 x.f0],[.int .i64 x.f1],rfl,rfl,rfl⟩
theorem k37_mkM (w:World) (base:Nat) (ok:Nat→Prop) (x:S37) :k37.M w base ok x [.int .i64 x.f0,.int .i64 x.f1]:=⟨[.int .i64 x.f0],[.int .i64 x.f1],rfl,rfl,rfl⟩
def rdR (xs:List S37) (i:Int):S37:=xs.getD i.toNat z37
theorem at_T37 {w:World} {A:Option Addr} {n:Nat} {xs:List S37} (h:Kd.C k37 w A n xs) (i:Int) (h0:0≤i) (h1:i < n):∃ ad ,A=some ad∧w.cell? (ad.add (i.toNat*2))=some (.int .i64 (rdR xs i).f0)∧w.cell? ⟨(ad.add (i.toNat*2)).block,(ad.add (i.toNat*2)).off+1,none⟩=some (.int .i64 (rdR xs i).f1):=by
 obtain ⟨ad,c,e,_,hK,hc0⟩:=Kd.C_get h z37 i h0 h1
 have hc:∀ j u,c[j]?=some u→w.cell? (ad.add (i.toNat*2+j))=some u:=hc0
 obtain rfl:=k37_open hK
 exact ⟨ad,e,hc 0 _ rfl,by rw [← add_field _ _ 1 (by omega)];exact hc 1 _ rfl⟩
structure S30 where
 f0:(List S35)
 f1:(List S35)
 f2:(List S37)
def z30:S30:=⟨([]:List S35),([]:List S35),([]:List S37)⟩
def k30:Kd S30:=Kd.iso (Kd.pair (Kd.slice 35 k35) (Kd.pair (Kd.slice 35 k35) (Kd.slice 37 k37))) (fun x:S30=>(x.f0,x.f1,x.f2))
theorem k30_open {w:World} {x:S30} {cs:List Value} (h:k30.K w x cs):∃ A0 c0 A1 c1 A2 c2,cs=[.slice A0 x.f0.length c0,.slice A1 x.f1.length c1,.slice A2 x.f2.length c2]∧x.f0.length≤c0∧k35.C w A0 x.f0.length x.f0∧x.f1.length≤c1∧k35.C w A1 x.f1.length x.f1∧x.f2.length≤c2∧k37.C w A2 x.f2.length x.f2:=by
 obtain ⟨_,_,rfl,⟨A0,c0,rfl,l0,g0⟩,⟨_,_,rfl,⟨A1,c1,rfl,l1,g1⟩,⟨A2,c2,rfl,l2,g2⟩⟩⟩:=h
 exact ⟨A0,c0,A1,c1,A2,c2,rfl,l0,g0,l1,g1,l2,g2⟩
theorem k30_mk (w:World) (x:S30) {A0:Option Addr} {c0:Nat} (l0:x.f0.length≤c0) (g0:k35.C w A0 x.f0.length x.f0) {A1:Option Addr} {c1:Nat} (l1:x.f1.length≤c1) (g1:k35.C w A1 x.f1.length x.f1) {A2:Option Addr} {c2:Nat} (l2:x.f2.length≤c2) (g2:k37.C w A2 x.f2.length x.f2):k30.K w x [.slice A0 x.f0.length c0,.slice A1 x.f1.length c1,.slice A2 x.f2.length c2]:=⟨[.slice A0 x.f0.length c0],[.slice A1 x.f1.length c1,.slice A2 x.f2.length c2],rfl,⟨A0,c0,rfl,l0,g0⟩,⟨[.slice A1 x.f1.length c1],[.slice A2 x.f2.length c2],rfl,⟨A1,c1,rfl,l1,g1⟩,⟨A2,c2,rfl,l2,g2⟩⟩⟩
def rdP (xs:List S30) (i:Int):S30:=xs.getD i.toNat z30
theorem at_T30 {w:World} {A:Option Addr} {n:Nat} {xs:List S30} (h:Kd.C k30 w A n xs) (i:Int) (h0:0≤i) (h1:i < n):∃ ad A0 c0 A1 c1 A2 c2,A=some ad∧w.cell? (ad.add (i.toNat*3))=some (.slice A0 (rdP xs i).f0.length c0)∧w.cell? ⟨(ad.add (i.toNat*3)).block,(ad.add (i.toNat*3)).off+1,none⟩=some (.slice A1 (rdP xs i).f1.length c1)∧w.cell? ⟨(ad.add (i.toNat*3)).block,(ad.add (i.toNat*3)).off+2,none⟩=some (.slice A2 (rdP xs i).f2.length c2)∧(rdP xs i).f0.length≤c0∧k35.C w A0 (rdP xs i).f0.length (rdP xs i).f0∧(rdP xs i).f1.length≤c1∧k35.C w A1 (rdP xs i).f1.length (rdP xs i).f1∧(rdP xs i).f2.length≤c2∧k37.C w A2 (rdP xs i).f2.length (rdP xs i).f2:=by
 obtain ⟨ad,c,e,_,hK,hc0⟩:=Kd.C_get h z30 i h0 h1
 have hc:∀ j u,c[j]?=some u→w.cell? (ad.add (i.toNat*3+j))=some u:=hc0
 obtain ⟨A0,c0,A1,c1,A2,c2,rfl,l0,g0,l1,g1,l2,g2⟩:=k30_open hK
 exact ⟨ad,A0,c0,A1,c1,A2,c2,e,hc 0 _ rfl,by rw [← add_field _ _ 1 (by omega)];exact hc 1 _ rfl,by rw [← add_field _ _ 2 (by omega)];exact hc 2 _ rfl,l0,g0,l1,g1,l2,g2⟩
section
variable {α β:Type} {p:Prop} [Decidable p] {x:Option α} {r:α}
theorem od {p:Prop} {_:Decidable p} (h:decide p=true:=by with_reducible assumption):p:=of_decide_eq_true h
theorem iN (h:(if p then x else none)=some r):p∧x=some r:=by
 by_cases c:p
 ·rw [if_pos c] at h;exact ⟨c,h⟩
 ·rw [if_neg c] at h;exact absurd h (by simp)
theorem iNd (h:(if p then x else none)=some r):decide p=true∧x=some r:=⟨decide_eq_true (iN h).1,(iN h).2⟩
theorem iNB (h:(if p then x else none)=some r):(p=True)∧decide p=true∧x=some r:=⟨eq_true (iN h).1,decide_eq_true (iN h).1,(iN h).2⟩
theorem iP {y:Option α} (h:(if (true=true) then x else y)=some r):x=some r:=by rw [if_pos rfl] at h;exact h
theorem iF {y:Option α} (h:(if (false=true) then x else y)=some r):y=some r:=by rw [if_neg (by decide)] at h;exact h
theorem cBt {a b:Int} (h:a=b):(a == b)=true∧(a != b)=false:=⟨beq_iff_eq.mpr h,bne_eq_false_iff_eq.mpr h⟩
theorem cBf {a b:Int} (h:¬ a=b):(a == b)=false∧(a != b)=true:=⟨beq_eq_false_iff_ne.mpr h,bne_iff_ne.mpr h⟩
end
section
variable {α α0 α1:Type} {d:Kd α} {d0:Kd α0} {d1:Kd α1} {e e0 e1 base b0 b1:Nat} {ok ok0 ok1:Nat→Prop} {w W w1:World} {v u v0 v1:Value} {xs:List α} {xs0:List α0} {xs1:List α1} {o:Obj} {g g1 t:Nat} {cs:Array Value}
theorem qB (h:Aside0 (d.R e w base ok v xs)) (hb:Below w.heap.size w w1):Aside0 (d.R e w1 base ok v xs):=⟨Kd.R_below h.out hb⟩
theorem qb (h:Aside0 (w.heap[g]?=some o)) (hb:Below w.heap.size w w1):Aside0 (w1.heap[g]?=some o):=⟨blk_below h.out hb⟩
theorem qt (h:Aside0 (d.R e W base ok u xs)) (hb:Below W.heap.size W w1) (h0:d0.R e0 w1 W.heap.size ok0 v0 xs0) (h1:d1.R e1 w1 W.heap.size ok1 v1 xs1):Aside0 (d.R e w1 base (fun k=>(ok k∧some k≠v0.ownBlock)∧some k≠v1.ownBlock) u xs) :=
 ⟨Kd.R_mono (Kd.R_told (Kd.R_told (Kd.R_old h.out hb) (Kd.R_base h0)) (Kd.R_base h1)) (fun _ h_=>h_.1)⟩
theorem qg (h:Aside0 (W.heap[g]?=some (.cells cs t (0,0)))) (hg:W.grownBy w1 v.ownBlock) (h0:Aside0 (d.R e W base ok v xs)) (ht:e≠t):Aside0 (w1.heap[g]?=some (.cells cs t (0,0))):=⟨blk_grown h.out hg (Kd.R_ne h0.out h.out ht)⟩
theorem qe (h:Aside0 (d.R e W base ok u xs)) (h0:d0.R e0 w1 W.heap.size ok0 v0 xs0) (hb:Below W.heap.size W w1):Aside0 (d.R e w1 base (fun k=>ok k∧some k≠v0.ownBlock) u xs):=⟨Kd.R_elder' h.out (Kd.R_base h0) hb⟩
theorem qs (h:Aside0 (Below w.heap.size w W)) (k:Below W.heap.size W w1):Aside0 (Below w.heap.size w w1):=⟨below_step h.out k⟩
theorem qd (h:Aside0 (Below w.heap.size w W)):Aside0 (Below w.heap.size w W.drew):=⟨b_dr h.out⟩
theorem qD (h:Aside0 (d.R e w base ok v xs)):Aside0 (d.R e w.drew base ok v xs):=⟨Kd.R_drew h.out⟩
theorem qr (h:Aside0 (w.heap[g]?=some o)):Aside0 (w.drew.heap[g]?=some o):=⟨bk_d h.out⟩
theorem ql (h:d.R e w1 W.heap.size ok v xs) (hb:Aside0 (Below w.heap.size w W)):Aside0 (d.R e w1 w.heap.size ok v xs):=⟨Kd.R_lower h (below_size hb.out)⟩
theorem qw (h:d.R e w1 W.heap.size ok v xs) (h0:Aside0 (d0.R e0 W b0 ok0 v0 xs0)):d.R e w1 W.heap.size (fun k=>ok k∧some k≠v0.ownBlock) v xs:=Kd.R_new' h (Kd.R_lt h0.out)
theorem qo (h:Aside0 (d.R e W base ok u xs)) (h0:Aside0 (d0.R e0 W b0 ok0 v xs0)) (ht:∀ q,q ∈ e :: d.E→q≠e0) (hg:W.grownBy w1 v.ownBlock):Aside0 (d.R e w1 base ok u xs):=⟨Kd.R_over' h.out (Kd.R_typed h0.out) ht hg⟩
theorem qz (h:Aside0 (Below w.heap.size w W)) (hg:g=W.heap.size):Aside0 (w.heap.size≤g):=⟨by rw [hg];exact below_size h.out⟩
theorem qn (h:Aside0 (W.heap[g]?=some o)) (hg:g1=W.heap.size):Aside0 (g≠g1):=⟨by rw [hg];exact Nat.ne_of_lt (blk_lt h.out)⟩
theorem qN (h:Aside0 (W.heap[g]?=some o)) (hg:g1=W.heap.size):Aside0 (g1≠g):=⟨by rw [hg];exact Nat.ne_of_gt (blk_lt h.out)⟩
theorem qG (h:Aside0 (W.heap[g]?=some o)) (hg:W.grownBy w1 (Value.ownBlock (.slice none 0 0))):Aside0 (w1.heap[g]?=some o):=⟨blk_grown h.out hg (by simp [Value.ownBlock])⟩
end
section
variable {w:World} {g t:Nat} {a0 a1 a2 a3 a4:Value}
theorem qc1 {G:Prop} (h:Aside0 (w.heap[g]?=some (.cells #[a0] t (0,0)))) (k:w.cell? ⟨g,0,none⟩=some a0→w.frozen? ⟨g,0,none⟩=false→G):G:=k ((bk_c h.out 0).trans rfl) (bk_f h.out 0)
theorem qc2 {G:Prop} (h:Aside0 (w.heap[g]?=some (.cells #[a0,a1] t (0,0)))) (k:w.cell? ⟨g,0,none⟩=some a0→w.cell? ⟨g,1,none⟩=some a1→w.frozen? ⟨g,0,none⟩=false→w.frozen? ⟨g,1,none⟩=false→G):G:=k ((bk_c h.out 0).trans rfl) ((bk_c h.out 1).trans rfl) (bk_f h.out 0) (bk_f h.out 1)
theorem qc3 {G:Prop} (h:Aside0 (w.heap[g]?=some (.cells #[a0,a1,a2] t (0,0)))) (k:w.cell? ⟨g,0,none⟩=some a0→w.cell? ⟨g,1,none⟩=some a1→w.cell? ⟨g,2,none⟩=some a2→w.frozen? ⟨g,0,none⟩=false→w.frozen? ⟨g,1,none⟩=false→w.frozen? ⟨g,2,none⟩=false→G):G:=k ((bk_c h.out 0).trans rfl) ((bk_c h.out 1).trans rfl) ((bk_c h.out 2).trans rfl) (bk_f h.out 0) (bk_f h.out 1) (bk_f h.out 2)
theorem qc5 {G:Prop} (h:Aside0 (w.heap[g]?=some (.cells #[a0,a1,a2,a3,a4] t (0,0)))) (k:w.cell? ⟨g,0,none⟩=some a0→w.cell? ⟨g,1,none⟩=some a1→w.cell? ⟨g,2,none⟩=some a2→w.cell? ⟨g,3,none⟩=some a3→w.cell? ⟨g,4,none⟩=some a4→w.frozen? ⟨g,0,none⟩=false→w.frozen? ⟨g,1,none⟩=false→w.frozen? ⟨g,2,none⟩=false→w.frozen? ⟨g,3,none⟩=false→w.frozen? ⟨g,4,none⟩=false→G):G:=k ((bk_c h.out 0).trans rfl) ((bk_c h.out 1).trans rfl) ((bk_c h.out 2).trans rfl) ((bk_c h.out 3).trans rfl) ((bk_c h.out 4).trans rfl) (bk_f h.out 0) (bk_f h.out 1) (bk_f h.out 2) (bk_f h.out 3) (bk_f h.out 4)
end
section
variable {w W:World} {A:Option Addr} {n:Nat}
theorem rd35 {xs:List S35} (h:Aside0 (Kd.C k35 w A n xs)) (hb:Aside0 (Below w.heap.size w W)) (i:Int) (h0:decide (0≤i)=true:=by with_reducible assumption) (h1:decide (i < n)=true:=by with_reducible assumption):∃ ad ,A=some ad∧((0≤i)=True)∧((i < n)=True)∧W.cell? (ad.add (i.toNat*5))=some (.int .i64 (rdQ xs i).f0)∧W.cell? ⟨(ad.add (i.toNat*5)).block,(ad.add (i.toNat*5)).off+1,none⟩=some (.int .i64 (rdQ xs i).f1)∧W.cell? ⟨(ad.add (i.toNat*5)).block,(ad.add (i.toNat*5)).off+2,none⟩=some (.int .i64 (rdQ xs i).f2)∧W.cell? ⟨(ad.add (i.toNat*5)).block,(ad.add (i.toNat*5)).off+3,none⟩=some (.int .i64 (rdQ xs i).f3)∧W.cell? ⟨(ad.add (i.toNat*5)).block,(ad.add (i.toNat*5)).off+4,none⟩=some (.int .i64 (rdQ xs i).f4):=by
 obtain ⟨ad,e,hc⟩:=at_T35 (Kd.C_below h.out hb.out) i (of_decide_eq_true h0) (of_decide_eq_true h1)
 exact ⟨ad,e,eq_true (of_decide_eq_true h0),eq_true (of_decide_eq_true h1),hc⟩
theorem rd37 {xs:List S37} (h:Aside0 (Kd.C k37 w A n xs)) (hb:Aside0 (Below w.heap.size w W)) (i:Int) (h0:decide (0≤i)=true:=by with_reducible assumption) (h1:decide (i < n)=true:=by with_reducible assumption):∃ ad ,A=some ad∧((0≤i)=True)∧((i < n)=True)∧W.cell? (ad.add (i.toNat*2))=some (.int .i64 (rdR xs i).f0)∧W.cell? ⟨(ad.add (i.toNat*2)).block,(ad.add (i.toNat*2)).off+1,none⟩=some (.int .i64 (rdR xs i).f1):=by
 obtain ⟨ad,e,hc⟩:=at_T37 (Kd.C_below h.out hb.out) i (of_decide_eq_true h0) (of_decide_eq_true h1)
 exact ⟨ad,e,eq_true (of_decide_eq_true h0),eq_true (of_decide_eq_true h1),hc⟩
end
section
structure KB (g:Nat) (w w':World):Prop where
 k:∀ i,i≠g→w'.heap[i]?=w.heap[i]?
 b:∀ B,B≤g→Below B w w'
variable {α:Type} {d:Kd α} {e base g t n c:Nat} {ok ok':Nat→Prop} {w w' w0:World} {v:Value} {xs:List α} {o:Obj} {cs:Array Value} {k:Nat}
theorem kS {p:Addr} {u:Value} (h:KB p.block w w'):KB p.block w (w'.setCell p u) :=
 ⟨fun i hi=>(Below.heap_setCell w' p u i hi).trans (h.k i hi),fun _ hB=>(h.b _ hB).setCell hB _⟩
theorem kR:KB g w w:=⟨fun _ _=>rfl,fun _ _=>Below.refl _ _⟩
variable {i0 i1 i2 i3 i4:Nat} {s0 s1 s2 s3 s4:Option (Nat × Nat)} {u0 u1 u2 u3 u4:Value}
theorem kb1:KB g w (w.setCell ⟨g,i0,none⟩ u0):=kS (p:=⟨g,i0,none⟩) kR
theorem kb2:KB g w ((w.setCell ⟨g,i0,none⟩ u0).setCell ⟨g,i1,none⟩ u1):=kS (p:=⟨g,i1,none⟩) kb1
theorem kb3:KB g w (((w.setCell ⟨g,i0,none⟩ u0).setCell ⟨g,i1,none⟩ u1).setCell ⟨g,i2,none⟩ u2):=kS (p:=⟨g,i2,none⟩) kb2
theorem kb4:KB g w ((((w.setCell ⟨g,i0,none⟩ u0).setCell ⟨g,i1,none⟩ u1).setCell ⟨g,i2,none⟩ u2).setCell ⟨g,i3,none⟩ u3):=kS (p:=⟨g,i3,none⟩) kb3
theorem kb5:KB g w (((((w.setCell ⟨g,i0,none⟩ u0).setCell ⟨g,i1,none⟩ u1).setCell ⟨g,i2,none⟩ u2).setCell ⟨g,i3,none⟩ u3).setCell ⟨g,i4,none⟩ u4):=kS (p:=⟨g,i4,none⟩) kb4
theorem zMm (h:Aside0 (d.R e w base ok v xs)) (hn:∀ k,ok k→k≠g) (hK:KB g w w') (hf:∀ k,ok k→ok' k):Aside0 (d.R e w' base ok' v xs) :=
 ⟨Kd.R_mono (Kd.R_step h.out (fun k ho _=>hK.k k (hn k ho))) hf⟩
theorem zM (h:Aside0 (d.R e w base ok v xs)) (hn:∀ k,ok k→k≠g) (hK:KB g w w'):Aside0 (d.R e w' base ok v xs):=zMm h hn hK (fun _ h=>h)
theorem zRm (h:Aside0 (d.R e w base ok v xs)) (hb:Aside0 (w.heap[g]?=some (.cells cs t (0,0)))) (ht:∀ q,q ∈ e :: d.E→q≠t) (hK:KB g w w') (hf:∀ k,ok k→ok' k):Aside0 (d.R e w' base ok' v xs) :=
 ⟨Kd.R_mono (Kd.R_step (Kd.R_types h.out hb.out ht) (fun k ho _=>hK.k k ho.2)) (fun k hk=>hf k hk.1)⟩
theorem zR (h:Aside0 (d.R e w base ok v xs)) (hb:Aside0 (w.heap[g]?=some (.cells cs t (0,0)))) (ht:∀ q,q ∈ e :: d.E→q≠t) (hK:KB g w w'):Aside0 (d.R e w' base ok v xs):=zRm h hb ht hK (fun _ h=>h)
theorem zb (h:Aside0 (w.heap[k]?=some o)) (hn:k≠g) (hK:KB g w w'):Aside0 (w'.heap[k]?=some o):=⟨(hK.k k hn).trans h.out⟩
theorem zB (h:Aside0 (Below w0.heap.size w0 w)) (hg:Aside0 (w0.heap.size≤g)) (hK:KB g w w'):Aside0 (Below w0.heap.size w0 w'):=⟨h.out.trans (hK.b _ hg.out)⟩
theorem zn (h:Aside0 (d.R e w base ok (.slice (some ⟨g,0,none⟩) n c) xs)) (hb:Aside0 (w.heap[k]?=some (.cells cs t (0,0)))) (ht:e≠t):k≠g:=by
 have h_:=Kd.R_ne h.out hb.out ht
 intro e_;exact h_ (by rw [e_];rfl)
theorem za (h:Aside0 (d.R e w base ok (.slice (some ⟨g,0,none⟩) n c) xs)) (hk:∀ i,ok i→i≠k):k≠g:=by
 have h_:=Kd.R_away h.out hk
 intro e_;exact h_ (by rw [e_];rfl)
end
section
variable {g i0 i1 i2 i3 i4 n j:Nat} {w w':World} {ad:Addr} {v u0 u1 u2 u3 u4:Value}
theorem kB1 (w i0 u0):KB g w (w.setCell ⟨g,i0,none⟩ u0):=kb1
theorem kB5 (w i0 i1 i2 i3 i4 u0 u1 u2 u3 u4):KB g w (((((w.setCell ⟨g,i0,none⟩ u0).setCell ⟨g,i1,none⟩ u1).setCell ⟨g,i2,none⟩ u2).setCell ⟨g,i3,none⟩ u3).setCell ⟨g,i4,none⟩ u4):=kb5
theorem zc {a:Addr} (h:w.cell? a=some v) (hn:a.block≠g) (hK:KB g w w'):w'.cell? a=some v:=by
 rw [← h];unfold World.cell?;rw [hK.k _ hn]
end
def fl (n m:Nat):Array Bool:=((List.range n).map fun i=>m.testBit i).toArray
section
variable {P:Program} {ops:Array Oper} {Q:Exit→Act→World→Prop} {md:Region.Mode} {S:World→Prop} {ds:List Nat} {T:Bool × List (List Nat × List Nat)} {B:List Nat} {fuel:Nat} {l:Array Bool} {a:Act} {w:World} {oi:Oper}
theorem pA (n i t m:Nat) (v:Value) (hT:Aside0 (rtab md ops=T)) (hc:anyT T l.toList (fl n m).toList i=true) (hi:ops[i]?=some oi) (hN:oi.dst=some t) (hQ:∀ c a w,Q (.panic c) (a.put oi.dst v) w→Q (.panic c) a w)
  (hw:Region.wanted oi (yielded ops a.tmps)=true) (hy:∀ w',(execOp a.eval oi).run P w'=.ok (.value v) w') (a':Act) (ha:a.put (some t) v=a') (h:wpAnyLast P md ops Q S ds fuel (fl n m) a' w):wpAnyLast P md ops Q S ds (fuel+1) l a w :=
 pure_ (fl n m) hi hN (any_of hT.out hc) hQ (Or.inl ⟨hw,hy⟩) ha h
theorem pT (n i t m:Nat) (v:Value) (hT:Aside0 (rtab md ops=T)) (hB:Aside0 (waitsOk T.2 B=true)) (hc:takeW T B ds l.toList (fl n m).toList i=true) (hi:ops[i]?=some oi) (hN:oi.dst=some t) (hQ:∀ c a w,Q (.panic c) (a.put oi.dst v) w→Q (.panic c) a w)
  (hw:Region.wanted oi (yielded ops a.tmps)=true) (hy:∀ w',S w'→(execOp a.eval oi).run P w'=.ok (.value v) w') (hS:S w) (a':Act) (ha:a.put (some t) v=a') (h:wpAnyLast P md ops Q S ds fuel (fl n m) a' w):wpAnyLast P md ops Q S ds (fuel+1) l a w :=
 take_ (fl n m) hi hN (take_ofW hT.out hB.out hc) hQ (Or.inl ⟨hw,hy⟩) hS ha h
theorem pO (n i m:Nat) (N:Option Tmp) (hT:Aside0 (rtab md ops=T)) (hc:(readyT T.2 l.toList == [i] && l.toList.set i true == (fl n m).toList)=true) (hi:ops[i]?=some oi) (hN:oi.dst=N) (hd:i ∉ ds)
  (h:∀ K:Act→World→Prop,Shut (∀ a' w',S w'→(S w'→wpAnyLast P md ops Q S ds fuel (fl n m) a' w')→K a' w')→if Region.wanted oi (yielded ops a.tmps)=true then Oper.wp P oi a w K Q else K (a.put N undef) w):wpAnyLast P md ops Q S ds (fuel+1) l a w :=
 one_ (fl n m) hi hN (one_of hT.out hc) hd h
theorem pL (n i m:Nat) (N:Option Tmp) (hT:Aside0 (rtab md ops=T)) (hc:(readyT T.2 l.toList == [i] && l.toList.set i true == (fl n m).toList)=true) (hi:ops[i]?=some oi) (hN:oi.dst=N) (hd:i ∈ ds)
  (h:∀ K:Act→World→Prop,Shut (∀ a' w',wpAnyLast P md ops Q S ds fuel (fl n m) a' w'→K a' w')→if Region.wanted oi (yielded ops a.tmps)=true then Oper.wp P oi a w K Q else K (a.put N undef) w):wpAnyLast P md ops Q S ds (fuel+1) l a w :=
 last_ (fl n m) hi hN (one_of hT.out hc) hd h
end
section
variable {w W:World} {A:Option Addr} {n:Nat}
theorem rq35 {xs:List S35} (h:Aside0 (Kd.C k35 w A n xs)) (hb:Aside0 (Below w.heap.size w W)) (i:Int) (h0:0≤i) (h1:i < n):∃ ad ,A=some ad∧W.cell? (ad.add (i.toNat*5))=some (.int .i64 (rdQ xs i).f0)∧W.cell? ⟨(ad.add (i.toNat*5)).block,(ad.add (i.toNat*5)).off+1,none⟩=some (.int .i64 (rdQ xs i).f1)∧W.cell? ⟨(ad.add (i.toNat*5)).block,(ad.add (i.toNat*5)).off+2,none⟩=some (.int .i64 (rdQ xs i).f2)∧W.cell? ⟨(ad.add (i.toNat*5)).block,(ad.add (i.toNat*5)).off+3,none⟩=some (.int .i64 (rdQ xs i).f3)∧W.cell? ⟨(ad.add (i.toNat*5)).block,(ad.add (i.toNat*5)).off+4,none⟩=some (.int .i64 (rdQ xs i).f4) :=
 at_T35 (Kd.C_below h.out hb.out) i h0 h1
end
section
variable {α:Type} (xs:List α) (x a:α) (n:Nat)
theorem s1:xs.toArray.setIfInBounds n a=(xs.set n a).toArray:=List.setIfInBounds_toArray ..
theorem s2:(x :: xs).set 0 a=a :: xs:=List.set_cons_zero
theorem s3:(x :: xs).set (n+1) a=x :: xs.set n a:=List.set_cons_succ
end
section
variable {w:World} {A:Option Addr} {n c e base g:Nat} {ok:Nat→Prop} {ad:Addr}
theorem ro35 {xs:List S35} (h:Aside0 (k35.R e w base ok (.slice A n c) xs)) (i:Int) (h0:decide (0≤i)=true:=by with_reducible assumption) (h1:decide (i < xs.length)=true:=by with_reducible assumption):∃ ad ,A=some ad∧((0≤i)=True)∧((i < xs.length)=True)∧w.cell? (ad.add (i.toNat*5))=some (.int .i64 (rdQ xs i).f0)∧w.cell? ⟨(ad.add (i.toNat*5)).block,(ad.add (i.toNat*5)).off+1,none⟩=some (.int .i64 (rdQ xs i).f1)∧w.cell? ⟨(ad.add (i.toNat*5)).block,(ad.add (i.toNat*5)).off+2,none⟩=some (.int .i64 (rdQ xs i).f2)∧w.cell? ⟨(ad.add (i.toNat*5)).block,(ad.add (i.toNat*5)).off+3,none⟩=some (.int .i64 (rdQ xs i).f3)∧w.cell? ⟨(ad.add (i.toNat*5)).block,(ad.add (i.toNat*5)).off+4,none⟩=some (.int .i64 (rdQ xs i).f4):=by
 obtain ⟨ad,e,hc⟩:=at_T35 (Kd.R_reads' h.out).2.2 i (of_decide_eq_true h0) (of_decide_eq_true h1)
 exact ⟨ad,e,eq_true (of_decide_eq_true h0),eq_true (of_decide_eq_true h1),hc⟩
theorem ro37 {xs:List S37} (h:Aside0 (k37.R e w base ok (.slice A n c) xs)) (i:Int) (h0:decide (0≤i)=true:=by with_reducible assumption) (h1:decide (i < xs.length)=true:=by with_reducible assumption):∃ ad ,A=some ad∧((0≤i)=True)∧((i < xs.length)=True)∧w.cell? (ad.add (i.toNat*2))=some (.int .i64 (rdR xs i).f0)∧w.cell? ⟨(ad.add (i.toNat*2)).block,(ad.add (i.toNat*2)).off+1,none⟩=some (.int .i64 (rdR xs i).f1):=by
 obtain ⟨ad,e,hc⟩:=at_T37 (Kd.R_reads' h.out).2.2 i (of_decide_eq_true h0) (of_decide_eq_true h1)
 exact ⟨ad,e,eq_true (of_decide_eq_true h0),eq_true (of_decide_eq_true h1),hc⟩
theorem rob {xs:List Bool} (h:Aside0 (Kd.bool.R e w base ok (.slice A n c) xs)) (i:Int) (h0:decide (0≤i)=true:=by with_reducible assumption) (h1:decide (i < xs.length)=true:=by with_reducible assumption):∃ ad ,A=some ad∧((0≤i)=True)∧((i < xs.length)=True)∧w.cell? (ad.add i.toNat)=some (.bool (rdOf false xs i)):=by
 obtain ⟨ad,e,hc⟩:=Kd.at_bool (Kd.R_reads' h.out).2.2 i (of_decide_eq_true h0) (of_decide_eq_true h1)
 exact ⟨ad,e,eq_true (of_decide_eq_true h0),eq_true (of_decide_eq_true h1),hc⟩
theorem nq35 {xs:List S35} (h:Aside0 (Kd.C k35 w (some ad) n xs)) (i:Int) (h0:0≤i) (h1:i < n) (hg:Aside0 (w.heap.size≤g)):ad.block≠g:=by
 obtain ⟨ad',e,hc,_⟩:=at_T35 h.out i h0 h1
 cases e
 have:=World.block_lt_of_cell? _ _ hc
 rw [add_block] at this
 exact Nat.ne_of_lt (Nat.lt_of_lt_of_le this hg.out)
end
def api_Ins_42.f (l0:List (S35)):Option ((List (S35))):=if 0≤(l0.length:Int) then (if ((l0.length:Int):Int).toNat≤7036874417766 then ((some (([]:List (S35)):List (S35))).bind fun y112=>(if y112.length+l0.length < 3518437208883 then (some (y112 ++ l0)) else (none))) else (none)) else (none)
set_option maxHeartbeats 8000000 in
set_option maxRecDepth 100000 in
theorem api_Ins_42.calls (A0:Option Addr) (c0:Nat) (l0:List (S35)) (r:List (S35)) (w:World) (ak:Kd.C k35 w A0 l0.length l0) (au:l0.length≤c0) (h:api_Ins_42.f l0=some r) :
    Calls Try.prog 42 #[.slice A0 l0.length c0] w fun e w'=>∃ al:Value,e=.returned (al)∧Kd.R k35 35 w' w.heap.size (fun _=>True) al r∧Below w.heap.size w w':=by
 have an:=Aside0.mk ak
 clear ak au
 have HB:=Aside0.mk (Below.refl w.heap.size w)
 have H:(if 0≤(l0.length:Int) then (if ((l0.length:Int):Int).toNat≤7036874417766 then ((some (([]:List (S35)):List (S35))).bind fun aa=>(if aa.length+l0.length < 3518437208883 then (some (aa ++ l0)) else (none))) else (none)) else (none))=some r:=h
 clear h
 replace H:=iNB H
 obtain ⟨ao,ap,H⟩:=H
 replace H:=iNB H
 obtain ⟨aq,ar,H⟩:=H
 obtain ⟨aa,ab⟩:∃ y_:List (S35),y_=(([]:List (S35))):=⟨_,rfl⟩
 replace H:(if aa.length+l0.length < 3518437208883 then (some (aa ++ l0)) else (none))=some r:=by (have am:=(Option.bind_some _ _).symm.trans H;rw [ab];with_reducible exact am)
 have af:=Aside0.mk ab
 clear ab
 replace H:=iN H
 obtain ⟨c4,H⟩:=H
 have ah:=Aside0.mk c4
 clear c4
 obtain ⟨aw,ac⟩:∃ y_:List (S35),y_=(aa ++ l0):=⟨_,rfl⟩
 rw [← ac] at H
 have ag:=Aside0.mk ac
 clear ac
 obtain rfl:=Option.some.inj H
 go_enter Try.func42,Try.ntmps42
 go_wp2_with (first | ((with_reducible refine gate_dst (N:=5) rfl ?_);refine Kd.R_makecap k35 _ 35 rfl (N:=5) rfl 27 _ _ rfl (l0.length:Int) rfl rfl Try.underlying27 (.agg #[(.int .i64 0),(.int .i64 0),(.int .i64 0),(.int .i64 0),(.int .i64 0)]) 40 info35 rfl (by decide) (by omega) z35 (ok:=fun _=>True) (okp:=fun _=>True) (k35_mkM _ _ _ z35 ) (fun _ hk=>hk) trivial od (Nat.le_trans (Nat.mul_le_mul_right _ (od:(l0.length:Int).toNat≤7036874417766)) (by omega)) (Below.refl _ _) (Nat.le_refl _) ?_;intro aj w5 ai hb hg_ hnew_;clear hg_ hnew_;(rw [← af.out] at ai);have ad:=ql ai HB;replace HB:=qs HB hb;clear hb ai)|((with_reducible refine gate_builtin (b:=.append) (xs:=#[.tmp 5,.tmp 6]) rfl ?_);at_builtin;refine Kd.R_append_rows k35 (w0:=w) w.heap.size rfl (.tmp 5) (.tmp 6) 27 35 (.agg #[(.int .i64 0),(.int .i64 0),(.int .i64 0),(.int .i64 0),(.int .i64 0)]) 40 rfl Try.underlying27 info35 rfl (by decide) (by omega) aj aa l0 _ _ _ (fun _=>True) (fun _=>False) rfl rfl ?aO ?aR (fun _ _ h=>h) (fun _ h=>h.elim) ?aF ?aB ?aS ?aL ?_;(case aR=>exact (Kd.C_below an.out HB.out));(case aB=>exact HB.out);(case aF=>exact (fun _ _=>trivial));(case aO=>exact ad.out);(case aS=>exact (below_size HB.out));(case aL=>have:=ah.out;omega);intro av w7 ho hb hg hat;rw [← ag.out] at ho;replace HB:=Aside0.mk hb;have ae:=Aside0.mk ho;clear ad;clear ho hb hg hat))
 go_ret
 exact ⟨_,by (rfl),by exact ae.out,HB.out⟩
def api_Line_54.f (l0:List (S37)):Option ((List (S37))):=if 0≤(l0.length:Int) then (if ((l0.length:Int):Int).toNat≤17592186044416 then ((some (([]:List (S37)):List (S37))).bind fun y118=>(if y118.length+l0.length < 8796093022208 then (some (y118 ++ l0)) else (none))) else (none)) else (none)
set_option maxHeartbeats 8000000 in
set_option maxRecDepth 100000 in
theorem api_Line_54.calls (A0:Option Addr) (c0:Nat) (l0:List (S37)) (r:List (S37)) (w:World) (ak:Kd.C k37 w A0 l0.length l0) (au:l0.length≤c0) (h:api_Line_54.f l0=some r) :
    Calls Try.prog 54 #[.slice A0 l0.length c0] w fun e w'=>∃ al:Value,e=.returned (al)∧Kd.R k37 37 w' w.heap.size (fun _=>True) al r∧Below w.heap.size w w':=by
 have an:=Aside0.mk ak
 clear ak au
 have HB:=Aside0.mk (Below.refl w.heap.size w)
 have H:(if 0≤(l0.length:Int) then (if ((l0.length:Int):Int).toNat≤17592186044416 then ((some (([]:List (S37)):List (S37))).bind fun aa=>(if aa.length+l0.length < 8796093022208 then (some (aa ++ l0)) else (none))) else (none)) else (none))=some r:=h
 clear h
 replace H:=iNB H
 obtain ⟨ao,ap,H⟩:=H
 replace H:=iNB H
 obtain ⟨aq,ar,H⟩:=H
 obtain ⟨aa,ab⟩:∃ y_:List (S37),y_=(([]:List (S37))):=⟨_,rfl⟩
 replace H:(if aa.length+l0.length < 8796093022208 then (some (aa ++ l0)) else (none))=some r:=by (have am:=(Option.bind_some _ _).symm.trans H;rw [ab];with_reducible exact am)
 have af:=Aside0.mk ab
 clear ab
 replace H:=iN H
 obtain ⟨c4,H⟩:=H
 have ah:=Aside0.mk c4
 clear c4
 obtain ⟨aw,ac⟩:∃ y_:List (S37),y_=(aa ++ l0):=⟨_,rfl⟩
 rw [← ac] at H
 have ag:=Aside0.mk ac
 clear ac
 obtain rfl:=Option.some.inj H
 go_enter Try.func54,Try.ntmps54
 go_wp2_with (first | ((with_reducible refine gate_dst (N:=5) rfl ?_);refine Kd.R_makecap k37 _ 37 rfl (N:=5) rfl 28 _ _ rfl (l0.length:Int) rfl rfl Try.underlying28 (.agg #[(.int .i64 0),(.int .i64 0)]) 16 info37 rfl (by decide) (by omega) z37 (ok:=fun _=>True) (okp:=fun _=>True) (k37_mkM _ _ _ z37 ) (fun _ hk=>hk) trivial od (Nat.le_trans (Nat.mul_le_mul_right _ (od:(l0.length:Int).toNat≤17592186044416)) (by omega)) (Below.refl _ _) (Nat.le_refl _) ?_;intro aj w5 ai hb hg_ hnew_;clear hg_ hnew_;(rw [← af.out] at ai);have ad:=ql ai HB;replace HB:=qs HB hb;clear hb ai)|((with_reducible refine gate_builtin (b:=.append) (xs:=#[.tmp 5,.tmp 6]) rfl ?_);at_builtin;refine Kd.R_append_rows k37 (w0:=w) w.heap.size rfl (.tmp 5) (.tmp 6) 28 37 (.agg #[(.int .i64 0),(.int .i64 0)]) 16 rfl Try.underlying28 info37 rfl (by decide) (by omega) aj aa l0 _ _ _ (fun _=>True) (fun _=>False) rfl rfl ?aO ?aR (fun _ _ h=>h) (fun _ h=>h.elim) ?aF ?aB ?aS ?aL ?_;(case aR=>exact (Kd.C_below an.out HB.out));(case aB=>exact HB.out);(case aF=>exact (fun _ _=>trivial));(case aO=>exact ad.out);(case aS=>exact (below_size HB.out));(case aL=>have:=ah.out;omega);intro av w7 ho hb hg hat;rw [← ag.out] at ho;replace HB:=Aside0.mk hb;have ae:=Aside0.mk ho;clear ad;clear ho hb hg hat))
 go_ret
 exact ⟨_,by (rfl),by exact ae.out,HB.out⟩
def opt_copied.f (l0_0:List (S35)) (l0_1:List (S35)) (l0_2:List (S37)):Option ((List (S35)) × (List (S35)) × (List (S37))):=(api_Ins_42.f l0_0).bind fun t126=>((api_Ins_42.f l0_1).bind fun t129=>((api_Line_54.f l0_2).bind fun t132=>(some (t126,t129,t132))))
def opt_copied.T1:Bool × List (List Nat × List Nat):=(true,[([],[]),([0],[0]),([1],[1]),([],[]),([3],[3]),([4,2],[4]),([],[]),([6],[6]),([7,5],[7]),([2,5,8],[2,5,8]),([9,8,0,1,2,3,4,5,6,7,8,9],[9])])
def opt_copied.B1:List Nat:=[0,1,3,0,8,31,0,64,255,511,1023]
theorem opt_copied.tab1:rtab .any (opsOf Try.f34 1)=opt_copied.T1:=by kernel_rfl
theorem opt_copied.bits1:waitsOk opt_copied.T1.2 opt_copied.B1=true:=by kernel_rfl
set_option maxHeartbeats 8000000 in
set_option maxRecDepth 100000 in
theorem opt_copied.calls (ar:Option Addr) (ax:Nat) (ag:List (S35)) (au:Option Addr) (ay:Nat) (ah:List (S35)) (av:Option Addr) (az:Nat) (ai:List (S37)) (r1:List (S35)) (r2:List (S35)) (r3:List (S37)) (w:World) (aJ:Kd.C k35 w ar ag.length ag) (aG:ag.length≤ax) (aK:Kd.C k35 w au ah.length ah) (aH:ah.length≤ay) (aL:Kd.C k37 w av ai.length ai) (aI:ai.length≤az) (h:opt_copied.f ag ah ai=some (r1,r2,r3)) :
    Calls Try.prog 34 #[.agg #[.slice ar ag.length ax,.slice au ah.length ay,.slice av ai.length az]] w fun e w'=>∃ bc bd bo:Value,e=.returned (.agg #[bc,bd,bo])∧Kd.R k35 35 w' w.heap.size (fun k_=>some k_≠(bd:Value).ownBlock) bc r1∧Kd.R k35 35 w' w.heap.size (fun k_=>some k_≠(bc:Value).ownBlock) bd r2∧Kd.R k37 37 w' w.heap.size (fun _=>True) bo r3∧Below w.heap.size w w':=by
 have bs:=Try.underlying30
 have aQ:=Aside0.mk aJ
 have aN:=Aside0.mk aG
 clear aJ aG
 have aR:=Aside0.mk aK
 have aO:=Aside0.mk aH
 clear aK aH
 have aS:=Aside0.mk aL
 have aP:=Aside0.mk aI
 clear aL aI
 have HB:=Aside0.mk (Below.refl w.heap.size w)
 have H:((api_Ins_42.f ag).bind fun aj=>((api_Ins_42.f ah).bind fun ak=>((api_Line_54.f ai).bind fun al=>(some (aj,ak,al)))))=some (r1,r2,r3):=h
 clear h
 replace H:=Option.bind_eq_some_iff.mp H
 obtain ⟨aj,bf,H⟩:=H
 try dsimp only at H
 have A2:=Aside0.mk bf
 clear bf
 replace H:=Option.bind_eq_some_iff.mp H
 obtain ⟨ak,bg,H⟩:=H
 try dsimp only at H
 have A3:=Aside0.mk bg
 clear bg
 replace H:=Option.bind_eq_some_iff.mp H
 obtain ⟨al,bh,H⟩:=H
 try dsimp only at H
 have A4:=Aside0.mk bh
 clear bh
 simp only [Option.some.injEq,Prod.mk.injEq] at H
 obtain ⟨rfl,rfl,rfl⟩:=H
 go_enter Try.func34,Try.ntmps34
 try go_wp2_with (first | ((with_reducible refine gate_dst (N:=1) rfl ?_);refine box_event ?hg (N:=1) ?hd (cs:=#[.slice ar ag.length ax,.slice au ah.length ay,.slice av ai.length az]) (t:=30) ?hr ?_;(case hd=>rfl);(case hg=>rfl);(case hr=>(go_simp;done));intro aB hg w5 hbox hb;have ab:=Aside0.mk hbox;have bj:=qz HB hg;have bi:=qz HB hg;replace HB:=qs HB hb;clear hb hbox hg)|((with_reducible refine gate_dst (N:=2) rfl ?_);refine box_event ?hg (N:=2) ?hd (cs:=#[.slice none 0 0,.slice none 0 0,.slice none 0 0]) (t:=30) ?hr ?_;(case hd=>rfl);(case hg=>rfl);(case hr=>(go_simp;done));intro ac hg w6 hbox hb;have ad:=Aside0.mk hbox;have bk:=qz HB hg;have aM:=qz HB hg;replace HB:=qs HB hb;have aa:=qn ab hg;have ae:=qN ab hg;replace ab:=qb ab hb;clear hb hbox hg))
 replace ab:=qr ab
 replace ad:=qr ad
 replace HB:=qd HB
 refine start_ (n:=11) (S:=fun w'=>w'.cell? ⟨aB,0,none⟩=some (.slice ar ag.length ax)∧w'.cell? ⟨aB,1,none⟩=some (.slice au ah.length ay)∧w'.cell? ⟨aB,2,none⟩=some (.slice av ai.length az)) (ds:=[]) (fl 11 0) (by kernel_rfl) rfl rfl ⟨(bk_c ab.out 0).trans rfl,(bk_c ab.out 1).trans rfl,(bk_c ab.out 2).trans rfl⟩ (fun hHeld=>?_);refine with_tabW opt_copied.tab1 opt_copied.bits1 (fun HT_ HW_=>?_)
 generalize w6.drew=w7 at ab ad HB hHeld ⊢
 refine pA 11 0 3 1 ?_ HT_ (by kernel_rfl) rfl rfl (fun _ _ _ h=>h) (by rfl) ?_ ?_ ?_ ?_
 rotate_left
 intro w'
 go_simp
 with_reducible rfl
 rotate_left
 simp only [Act.put,s1,s2,s3,i64_w,i32_w]
 rfl
 refine pA 11 3 6 9 ?_ HT_ (by kernel_rfl) rfl rfl (fun _ _ _ h=>h) (by rfl) ?_ ?_ ?_ ?_
 rotate_left
 intro w'
 go_simp
 with_reducible rfl
 rotate_left
 simp only [Act.put,s1,s2,s3,i64_w,i32_w]
 rfl
 refine pA 11 6 9 73 ?_ HT_ (by kernel_rfl) rfl rfl (fun _ _ _ h=>h) (by rfl) ?_ ?_ ?_ ?_
 rotate_left
 intro w'
 go_simp
 with_reducible rfl
 rotate_left
 simp only [Act.put,s1,s2,s3,i64_w,i32_w]
 rfl
 refine pT 11 1 4 75 ?_ HT_ HW_ (by kernel_rfl) rfl rfl (fun _ _ _ h=>h) (by rfl) ?_ hHeld ?_ ?_ ?_
 rotate_left
 rintro w' ⟨_,_,_⟩
 go_simp
 with_reducible rfl
 rotate_left
 simp only [Act.put,s1,s2,s3,i64_w,i32_w]
 rfl
 refine pT 11 4 7 91 ?_ HT_ HW_ (by kernel_rfl) rfl rfl (fun _ _ _ h=>h) (by rfl) ?_ hHeld ?_ ?_ ?_
 rotate_left
 rintro w' ⟨_,_,_⟩
 go_simp
 with_reducible rfl
 rotate_left
 simp only [Act.put,s1,s2,s3,i64_w,i32_w]
 rfl
 refine pT 11 7 10 219 ?_ HT_ HW_ (by kernel_rfl) rfl rfl (fun _ _ _ h=>h) (by rfl) ?_ hHeld ?_ ?_ ?_
 rotate_left
 rintro w' ⟨_,_,_⟩
 go_simp
 with_reducible rfl
 rotate_left
 simp only [Act.put,s1,s2,s3,i64_w,i32_w]
 rfl
 refine pO 11 2 223 (some 5) HT_ (by kernel_rfl) rfl rfl (by decide) (fun K hK=>?_)
 refine goes_ Try.func42 (by kernel_rfl) rfl #[.slice ar ag.length ax] (by rfl) rfl rfl (by (try simp only [List.map_toArray,List.map_cons,List.map_nil]);(rfl)) ?_
 with_reducible refine (api_Ins_42.calls _ _ ag aj _ ?ap ?aq A2.out).mono ?_
 (case ap=>exact (Kd.C_below aQ.out HB.out))
 (case aq=>exact aN.out)
 rintro e w8 ⟨bt,rfl,aE,hb⟩
 refine ⟨_,rfl,?_⟩
 have af:=ql aE HB
 replace ab:=qb ab hb
 replace ad:=qb ad hb
 replace HB:=qs HB hb
 (try clear hb)
 (try clear aE)
 refine hK.out _ _ ⟨(bk_c ab.out 0).trans rfl,(bk_c ab.out 1).trans rfl,(bk_c ab.out 2).trans rfl⟩ (fun hHeld=>?_)
 clear hK K
 refine norm_ (a':=?_) ?_ ?_
 rotate_left
 ·show Act.put _ (some 5) _=_
  simp only [Act.put,s1,s2,s3,i64_w,i32_w]
  rfl
 refine pO 11 5 255 (some 8) HT_ (by kernel_rfl) rfl rfl (by decide) (fun K hK=>?_)
 refine goes_ Try.func42 (by kernel_rfl) rfl #[.slice au ah.length ay] (by rfl) rfl rfl (by (try simp only [List.map_toArray,List.map_cons,List.map_nil]);(rfl)) ?_
 with_reducible refine (api_Ins_42.calls _ _ ah ak _ ?ap ?aq A3.out).mono ?_
 (case ap=>exact (Kd.C_below aR.out HB.out))
 (case aq=>exact aO.out)
 rintro e w9 ⟨bu,rfl,aE,hb⟩
 refine ⟨_,rfl,?_⟩
 have am:=ql (qw aE af) HB
 replace af:=qe af aE hb
 replace ab:=qb ab hb
 replace ad:=qb ad hb
 replace HB:=qs HB hb
 (try clear hb)
 (try clear aE)
 refine hK.out _ _ ⟨(bk_c ab.out 0).trans rfl,(bk_c ab.out 1).trans rfl,(bk_c ab.out 2).trans rfl⟩ (fun hHeld=>?_)
 clear hK K
 refine norm_ (a':=?_) ?_ ?_
 rotate_left
 ·show Act.put _ (some 8) _=_
  simp only [Act.put,s1,s2,s3,i64_w,i32_w]
  rfl
 refine pO 11 8 511 (some 11) HT_ (by kernel_rfl) rfl rfl (by decide) (fun K hK=>?_)
 refine goes_ Try.func54 (by kernel_rfl) rfl #[.slice av ai.length az] (by rfl) rfl rfl (by (try simp only [List.map_toArray,List.map_cons,List.map_nil]);(rfl)) ?_
 with_reducible refine (api_Line_54.calls _ _ ai al _ ?ap ?aq A4.out).mono ?_
 (case ap=>exact (Kd.C_below aS.out HB.out))
 (case aq=>exact aP.out)
 rintro e be ⟨bv,rfl,aE,hb⟩
 refine ⟨_,rfl,?_⟩
 replace af:=qB af hb
 replace am:=qB am hb
 have aF:=ql aE HB
 replace ab:=qb ab hb
 replace ad:=qb ad hb
 replace HB:=qs HB hb
 (try clear hb)
 (try clear aE)
 obtain ⟨aC,aD,aZ⟩:=Kd.R_slice aF.out
 (subst aZ)
 obtain ⟨aw,aA,ba⟩:=Kd.R_slice am.out
 (subst ba)
 obtain ⟨an,ao,bb⟩:=Kd.R_slice af.out
 (subst bb)
 refine hK.out _ _ ⟨(bk_c ab.out 0).trans rfl,(bk_c ab.out 1).trans rfl,(bk_c ab.out 2).trans rfl⟩ (fun hHeld=>?_)
 clear hK K
 refine norm_ (a':=?_) ?_ ?_
 rotate_left
 ·show Act.put _ (some 11) _=_
  simp only [Act.put,s1,s2,s3,i64_w,i32_w]
  rfl
 refine pA 11 9 12 1023 ?_ HT_ (by kernel_rfl) rfl rfl (fun _ _ _ h=>h) (by rfl) ?_ ?_ ?_ ?_
 rotate_left
 intro w'
 go_simp
 with_reducible rfl
 rotate_left
 simp only [Act.put,s1,s2,s3,i64_w,i32_w]
 rfl
 refine pO 11 10 2047 (none) HT_ (by kernel_rfl) rfl rfl (by decide) (fun K hK=>?_)
 have bp:be.cell? ⟨ac,0,none⟩=some (.slice none 0 0):=(bk_c ad.out 0).trans rfl
 have bl:=bk_f ad.out 0
 have aW:=aa.out
 have aT:=ae.out
 have bq:be.cell? ⟨ac,1,none⟩=some (.slice none 0 0):=(bk_c ad.out 1).trans rfl
 have bm:=bk_f ad.out 1
 have aX:=aa.out
 have aU:=ae.out
 have br:be.cell? ⟨ac,2,none⟩=some (.slice none 0 0):=(bk_c ad.out 2).trans rfl
 have bn:=bk_f ad.out 2
 have aY:=aa.out
 have aV:=ae.out
 refine skip_ (w1:=?_) (by rfl) rfl ?_ ?_
 rotate_left
 ·go_simp
  rfl
 refine hK.out _ _ ⟨((cell_far (p:=⟨ac,_,none⟩) aa.out _).trans (((cell_far (p:=⟨ac,_,none⟩) aa.out _).trans (((cell_far (p:=⟨ac,_,none⟩) aa.out _).trans (hHeld.1)))))),((cell_far (p:=⟨ac,_,none⟩) aa.out _).trans (((cell_far (p:=⟨ac,_,none⟩) aa.out _).trans (((cell_far (p:=⟨ac,_,none⟩) aa.out _).trans (hHeld.2.1)))))),((cell_far (p:=⟨ac,_,none⟩) aa.out _).trans (((cell_far (p:=⟨ac,_,none⟩) aa.out _).trans (((cell_far (p:=⟨ac,_,none⟩) aa.out _).trans (hHeld.2.2))))))⟩ (fun hHeld=>?_)
 clear hK K
 refine done_ (done_of HT_.out (by kernel_rfl)) ?_
 try go_wp2
 refine bodyPost_ret (results_cell_row rfl _ _ ac 30 #[.slice an aj.length ao,.slice aw ak.length aA,.slice aC al.length aD] (0,0) _ rfl (by refine blk_put (cs:=#[.slice an aj.length ao,.slice aw ak.length aA,.slice none 0 0]) ?_ 2 _ rfl;refine blk_put (cs:=#[.slice an aj.length ao,.slice none 0 0,.slice none 0 0]) ?_ 1 _ rfl;refine blk_put (cs:=#[.slice none 0 0,.slice none 0 0,.slice none 0 0]) ?_ 0 _ rfl;exact ad.out) Try.underlying30 rfl (by kernel_rfl)) rfl ?_
 exact ⟨_,_,_,by (rfl),by exact Kd.R_mono (Kd.R_far (p:=⟨ac,2,none⟩) (Kd.R_far (p:=⟨ac,1,none⟩) (Kd.R_far (p:=⟨ac,0,none⟩) (Kd.R_types af.out ad.out (by decide)) (fun _ hk=>hk.2) (.slice an aj.length ao)) (fun _ hk=>hk.2) (.slice aw ak.length aA)) (fun _ hk=>hk.2) (.slice aC al.length aD)) (fun _ hk=>hk.1.2),by exact Kd.R_mono (Kd.R_far (p:=⟨ac,2,none⟩) (Kd.R_far (p:=⟨ac,1,none⟩) (Kd.R_far (p:=⟨ac,0,none⟩) (Kd.R_types am.out ad.out (by decide)) (fun _ hk=>hk.2) (.slice an aj.length ao)) (fun _ hk=>hk.2) (.slice aw ak.length aA)) (fun _ hk=>hk.2) (.slice aC al.length aD)) (fun _ hk=>hk.1.2),by exact Kd.R_mono (Kd.R_far (p:=⟨ac,2,none⟩) (Kd.R_far (p:=⟨ac,1,none⟩) (Kd.R_far (p:=⟨ac,0,none⟩) (Kd.R_types aF.out ad.out (by decide)) (fun _ hk=>hk.2) (.slice an aj.length ao)) (fun _ hk=>hk.2) (.slice aw ak.length aA)) (fun _ hk=>hk.2) (.slice aC al.length aD)) (fun _ hk=>trivial),by repeat ((with_reducible first | exact HB.out | refine b_st ?_ aM.out))⟩
mutual
def opt_fused.j0:Nat→Bool→Int→Int→Int→Int→Int→Int→Int→Int→Int→Int→Option (Int × Int × Int × Int × Int × Bool)
  | 0,_,_,_,_,_,_,_,_,_,_,_=>none
  | k+1,x6,x138000,x138001,x138002,x138003,x138004,x139000,x139001,x139002,x139003,x139004=>if x6=true then (some (14,x138001,x139001,0,0,true)) else (if x138000=5 then (opt_fused.j1 k (x139000 == 8) x138000 x138001 x138002 x138003 x138004 x139000 x139001 x139002 x139003 x139004) else (opt_fused.j1 k false x138000 x138001 x138002 x138003 x138004 x139000 x139001 x139002 x139003 x139004))
def opt_fused.j1:Nat→Bool→Int→Int→Int→Int→Int→Int→Int→Int→Int→Int→Option (Int × Int × Int × Int × Int × Bool)
  | 0,_,_,_,_,_,_,_,_,_,_,_=>none
  | k+1,x20,x138000,x138001,x138002,x138003,x138004,x139000,x139001,x139002,x139003,x139004=>if x20=true then (some (15,x138001,x139001,0,0,true)) else (if x138000=17 then (if x139000=18 then (some (25,x138001,x139001,0,0,true)) else (some (0,0,0,0,0,false))) else (some (0,0,0,0,0,false)))
end
def opt_fused.f (k:Nat) (a0_0:Int) (a0_1:Int) (a0_2:Int) (a0_3:Int) (a0_4:Int) (a1_0:Int) (a1_1:Int) (a1_2:Int) (a1_3:Int) (a1_4:Int):Option (Int × Int × Int × Int × Int × Bool):=if a0_0=5 then (opt_fused.j0 k (a1_0 == 7) a0_0 a0_1 a0_2 a0_3 a0_4 a1_0 a1_1 a1_2 a1_3 a1_4) else (opt_fused.j0 k false a0_0 a0_1 a0_2 a0_3 a0_4 a1_0 a1_1 a1_2 a1_3 a1_4)
set_option maxHeartbeats 8000000 in
set_option maxRecDepth 100000 in
theorem opt_fused.calls (k:Nat) (al:Int) (aj:Int) (ao:Int) (ap:Int) (aq:Int) (am:Int) (ak:Int) (ar:Int) (au:Int) (av:Int) (r1:Int) (r2:Int) (r3:Int) (r4:Int) (r5:Int) (r6:Bool) (w:World) (h:opt_fused.f k al aj ao ap aq am ak ar au av=some (r1,r2,r3,r4,r5,r6)) :
    Calls Try.prog 57 #[.agg #[.int .i64 al,.int .i64 aj,.int .i64 ao,.int .i64 ap,.int .i64 aq],.agg #[.int .i64 am,.int .i64 ak,.int .i64 ar,.int .i64 au,.int .i64 av]] w fun e w'=>e=.returned (.tuple #[.agg #[.int .i64 r1,.int .i64 r2,.int .i64 r3,.int .i64 r4,.int .i64 r5],.bool r6])∧Below w.heap.size w w':=by
 have fQ:=Try.underlying35
 have HB:=Aside0.mk (Below.refl w.heap.size w)
 have H:(if al=5 then (opt_fused.j0 k (am == 7) al aj ao ap aq am ak ar au av) else (opt_fused.j0 k false al aj ao ap aq am ak ar au av))=some (r1,r2,r3,r4,r5,r6):=h
 clear h
 have eI:=Aside0.mk H
 clear H
 go_enter Try.func57,Try.ntmps57
 go_upto_region 1 with (first | ((with_reducible refine gate_dst (N:=2) rfl ?_);refine box_event ?hg (N:=2) ?hd (cs:=#[.int .i64 al,.int .i64 aj,.int .i64 ao,.int .i64 ap,.int .i64 aq]) (t:=35) ?hr ?_;(case hd=>rfl);(case hg=>rfl);(case hr=>(go_simp;done));intro az hg w4 hbox hb;have aa:=Aside0.mk hbox;have eN:=qz HB hg;have eL:=qz HB hg;replace HB:=qs HB hb;clear hb hbox hg)|((with_reducible refine gate_dst (N:=3) rfl ?_);refine box_event ?hg (N:=3) ?hd (cs:=#[.int .i64 am,.int .i64 ak,.int .i64 ar,.int .i64 au,.int .i64 av]) (t:=35) ?hr ?_;(case hd=>rfl);(case hg=>rfl);(case hr=>(go_simp;done));intro aA hg w5 hbox hb;have ah:=Aside0.mk hbox;have eO:=qz HB hg;have eM:=qz HB hg;replace HB:=qs HB hb;have ab:=qn aa hg;have ad:=qN aa hg;replace aa:=qb aa hb;clear hb hbox hg)|((with_reducible refine gate_dst (N:=4) rfl ?_);refine box_event ?hg (N:=4) ?hd (cs:=#[.int .i64 0,.int .i64 0,.int .i64 0,.int .i64 0,.int .i64 0]) (t:=35) ?hr ?_;(case hd=>rfl);(case hg=>rfl);(case hr=>(go_simp;done));intro an hg w6 hbox hb;have ai:=Aside0.mk hbox;have eP:=qz HB hg;have ax:=qz HB hg;replace HB:=qs HB hb;have ac:=qn aa hg;have ae:=qN aa hg;replace aa:=qb aa hb;have af:=qn ah hg;have ag:=qN ah hg;replace ah:=qb ah hb;clear hb hbox hg))
 (try simp only [Act.put,s1,s2,s3])
 go_cut [6] (fun v6 wc=>∃ (kq:Nat) (ay:Bool),v6=.bool ay∧Aside0 (opt_fused.j0 kq ay al aj ao ap aq am ak ar au av=some (r1,r2,r3,r4,r5,r6))∧Aside0 (kq≤k)∧Aside0 (wc.heap[az]?=some (.cells #[.int .i64 al,.int .i64 aj,.int .i64 ao,.int .i64 ap,.int .i64 aq] 35 (0,0)))∧Aside0 (wc.heap[aA]?=some (.cells #[.int .i64 am,.int .i64 ak,.int .i64 ar,.int .i64 au,.int .i64 av] 35 (0,0)))∧Aside0 (wc.heap[an]?=some (.cells #[.int .i64 0,.int .i64 0,.int .i64 0,.int .i64 0,.int .i64 0] 35 (0,0)))∧Aside0 (Below w.heap.size w wc))
 case first =>
  have H:=eI.out
  clear eI
  by_cases c7:al=5
  ·rw [if_pos c7] at H
   obtain ⟨eJ,eK⟩:=cBt c7
   clear c7
   have H':=Aside0.mk H
   clear H
   have fM:=ab.out
   have fO:=ad.out
   have fN:=ac.out
   have fP:=ae.out
   refine qc5 aa fun aN aO aP aQ aR cL cM cN cO cP=>?_
   have eR:=af.out
   have fo:=ag.out
   refine qc5 ah fun aS aT aU aV aW cQ cR cS cT cU=>?_
   go_wp2
   go_meet
   case rel=>exact ⟨_,((am == 7)),rfl,H',⟨by omega⟩,aa,ah,ai,HB⟩
  rw [if_neg c7] at H
  obtain ⟨eJ,eK⟩:=cBf c7
  have H':=Aside0.mk H
  clear H
  have eS:=ab.out
  have fp:=ad.out
  have eT:=ac.out
  have fq:=ae.out
  refine qc5 aa fun aX aY aZ ba bb cV cW cX cY cZ=>?_
  go_wp2
  go_meet
  case rel=>exact ⟨_,(false),rfl,H',⟨by omega⟩,aa,ah,ai,HB⟩
 clear eI
 obtain ⟨kq,ay,rfl,HA,eQ,aa,ah,ai,HB⟩:=hcut
 obtain _ | fR:=kq
 ·exact absurd HA.out (by simp [opt_fused.j0])
 have H:=HA.out
 clear HA
 simp only [opt_fused.j0] at H
 by_cases aL:ay=true
 ·subst aL
  replace H:=iP H
  simp only [Option.some.injEq,Prod.mk.injEq] at H
  obtain ⟨rfl,rfl,rfl,rfl,rfl,rfl⟩:=H
  have eU:=ab.out
  have fr:=ad.out
  have eV:=ac.out
  have fs:=ae.out
  refine qc5 aa fun bc bd be bf bg da db dc dd de=>?_
  have eW:=af.out
  have ft:=ag.out
  refine qc5 ah fun bh bi bj bk bl df dg dh di dj=>?_
  refine qc5 ai fun bm bn bo bp bq dk dl dm dn dp=>?_
  go_wp2
  refine bodyPost_ret (results_ct rfl _ _ an 35 #[.int .i64 14,.int .i64 aj,.int .i64 ak,.int .i64 0,.int .i64 0] (0,0) _ rfl (by refine blk_put (cs:=#[.int .i64 14,.int .i64 aj,.int .i64 ak,.int .i64 0,.int .i64 0]) ?_ 4 _ rfl;refine blk_put (cs:=#[.int .i64 14,.int .i64 aj,.int .i64 ak,.int .i64 0,.int .i64 0]) ?_ 3 _ rfl;refine blk_put (cs:=#[.int .i64 14,.int .i64 aj,.int .i64 0,.int .i64 0,.int .i64 0]) ?_ 2 _ rfl;refine blk_put (cs:=#[.int .i64 14,.int .i64 0,.int .i64 0,.int .i64 0,.int .i64 0]) ?_ 1 _ rfl;refine blk_put (cs:=#[.int .i64 0,.int .i64 0,.int .i64 0,.int .i64 0,.int .i64 0]) ?_ 0 _ rfl;exact ai.out) Try.underlying35 rfl (by kernel_rfl)) rfl ?_
  exact ⟨by (rfl),by repeat ((with_reducible first | exact HB.out | refine b_st ?_ ax.out))⟩
 replace aL:=Bool.eq_false_iff.mpr aL
 subst aL
 replace H:=iF H
 have aB:=Aside0.mk H
 clear H
 go_upto_region 3 with (fail)
 go_cut [20] (fun fT wc=>∃ (kq:Nat) (aw:Bool),fT=.bool aw∧Aside0 (opt_fused.j1 kq aw al aj ao ap aq am ak ar au av=some (r1,r2,r3,r4,r5,r6))∧Aside0 (kq≤fR)∧Aside0 (wc.heap[az]?=some (.cells #[.int .i64 al,.int .i64 aj,.int .i64 ao,.int .i64 ap,.int .i64 aq] 35 (0,0)))∧Aside0 (wc.heap[aA]?=some (.cells #[.int .i64 am,.int .i64 ak,.int .i64 ar,.int .i64 au,.int .i64 av] 35 (0,0)))∧Aside0 (wc.heap[an]?=some (.cells #[.int .i64 0,.int .i64 0,.int .i64 0,.int .i64 0,.int .i64 0] 35 (0,0)))∧Aside0 (Below w.heap.size w wc))
 case first =>
  have H:=aB.out
  clear aB
  by_cases aC:al=5
  ·rw [if_pos aC] at H
   obtain ⟨aD,aE⟩:=cBt aC
   clear aC
   have H':=Aside0.mk H
   clear H
   have eX:=ab.out
   have fu:=ad.out
   have eY:=ac.out
   have fv:=ae.out
   refine qc5 aa fun br bs bt bu bv dq dr ds dt du=>?_
   have eZ:=af.out
   have fw:=ag.out
   refine qc5 ah fun bw bx bz bA bB dv dw dx dy dz=>?_
   go_wp2
   go_meet
   case rel=>exact ⟨_,((am == 8)),rfl,H',⟨by have:=eQ.out;(omega)⟩,aa,ah,ai,HB⟩
  rw [if_neg aC] at H
  obtain ⟨aD,aE⟩:=cBf aC
  have H':=Aside0.mk H
  clear H
  have fa:=ab.out
  have fx:=ad.out
  have fb:=ac.out
  have fy:=ae.out
  refine qc5 aa fun bC bD bE bF bG dA dB dC dD dE=>?_
  go_wp2
  go_meet
  case rel=>exact ⟨_,(false),rfl,H',⟨by have:=eQ.out;(omega)⟩,aa,ah,ai,HB⟩
 clear aB
 obtain ⟨kq,aw,rfl,HA,fL,aa,ah,ai,HB⟩:=hcut
 obtain _ | fS:=kq
 ·exact absurd HA.out (by simp [opt_fused.j1])
 have H:=HA.out
 clear HA
 simp only [opt_fused.j1] at H
 by_cases aM:aw=true
 ·subst aM
  replace H:=iP H
  simp only [Option.some.injEq,Prod.mk.injEq] at H
  obtain ⟨rfl,rfl,rfl,rfl,rfl,rfl⟩:=H
  have fc:=ab.out
  have fz:=ad.out
  have fd:=ac.out
  have fA:=ae.out
  refine qc5 aa fun bH bI bJ bK bL dF dG dH dI dJ=>?_
  have fe:=af.out
  have fB:=ag.out
  refine qc5 ah fun bM bN bO bP bQ dK dL dM dN dO=>?_
  refine qc5 ai fun bR bS bT bU bV dP dQ dR dS dT=>?_
  go_wp2
  refine bodyPost_ret (results_ct rfl _ _ an 35 #[.int .i64 15,.int .i64 aj,.int .i64 ak,.int .i64 0,.int .i64 0] (0,0) _ rfl (by refine blk_put (cs:=#[.int .i64 15,.int .i64 aj,.int .i64 ak,.int .i64 0,.int .i64 0]) ?_ 4 _ rfl;refine blk_put (cs:=#[.int .i64 15,.int .i64 aj,.int .i64 ak,.int .i64 0,.int .i64 0]) ?_ 3 _ rfl;refine blk_put (cs:=#[.int .i64 15,.int .i64 aj,.int .i64 0,.int .i64 0,.int .i64 0]) ?_ 2 _ rfl;refine blk_put (cs:=#[.int .i64 15,.int .i64 0,.int .i64 0,.int .i64 0,.int .i64 0]) ?_ 1 _ rfl;refine blk_put (cs:=#[.int .i64 0,.int .i64 0,.int .i64 0,.int .i64 0,.int .i64 0]) ?_ 0 _ rfl;exact ai.out) Try.underlying35 rfl (by kernel_rfl)) rfl ?_
  exact ⟨by (rfl),by repeat ((with_reducible first | exact HB.out | refine b_st ?_ ax.out))⟩
 replace aM:=Bool.eq_false_iff.mpr aM
 subst aM
 replace H:=iF H
 by_cases aF:al=17
 ·rw [if_pos aF] at H
  obtain ⟨aG,aH⟩:=cBt aF
  clear aF
  by_cases aI:am=18
  ·rw [if_pos aI] at H
   obtain ⟨aJ,aK⟩:=cBt aI
   clear aI
   simp only [Option.some.injEq,Prod.mk.injEq] at H
   obtain ⟨rfl,rfl,rfl,rfl,rfl,rfl⟩:=H
   have ff:=ab.out
   have fC:=ad.out
   have fg:=ac.out
   have fD:=ae.out
   refine qc5 aa fun bW bX bY bZ ca dU dV dW dX dY=>?_
   have fh:=af.out
   have fE:=ag.out
   refine qc5 ah fun cb cc cd ce cf dZ ea eb ec ed=>?_
   refine qc5 ai fun cg ch ci cj ck ee ef eg eh ei=>?_
   go_wp2
   refine bodyPost_ret (results_ct rfl _ _ an 35 #[.int .i64 25,.int .i64 aj,.int .i64 ak,.int .i64 0,.int .i64 0] (0,0) _ rfl (by refine blk_put (cs:=#[.int .i64 25,.int .i64 aj,.int .i64 ak,.int .i64 0,.int .i64 0]) ?_ 4 _ rfl;refine blk_put (cs:=#[.int .i64 25,.int .i64 aj,.int .i64 ak,.int .i64 0,.int .i64 0]) ?_ 3 _ rfl;refine blk_put (cs:=#[.int .i64 25,.int .i64 aj,.int .i64 0,.int .i64 0,.int .i64 0]) ?_ 2 _ rfl;refine blk_put (cs:=#[.int .i64 25,.int .i64 0,.int .i64 0,.int .i64 0,.int .i64 0]) ?_ 1 _ rfl;refine blk_put (cs:=#[.int .i64 0,.int .i64 0,.int .i64 0,.int .i64 0,.int .i64 0]) ?_ 0 _ rfl;exact ai.out) Try.underlying35 rfl (by kernel_rfl)) rfl ?_
   exact ⟨by (rfl),by repeat ((with_reducible first | exact HB.out | refine b_st ?_ ax.out))⟩
  rw [if_neg aI] at H
  obtain ⟨aJ,aK⟩:=cBf aI
  simp only [Option.some.injEq,Prod.mk.injEq] at H
  obtain ⟨rfl,rfl,rfl,rfl,rfl,rfl⟩:=H
  have fi:=ab.out
  have fF:=ad.out
  have fj:=ac.out
  have fG:=ae.out
  refine qc5 aa fun cl cm cn co cp ej ek el em en=>?_
  have fk:=af.out
  have fH:=ag.out
  refine qc5 ah fun cq cr ct cu cv eo ep eq er es=>?_
  refine qc5 ai fun cw cx cy cz cA et eu ev ew ex=>?_
  go_wp2
  refine bodyPost_ret (results_ct rfl _ _ an 35 #[.int .i64 0,.int .i64 0,.int .i64 0,.int .i64 0,.int .i64 0] (0,0) _ rfl (by refine blk_put (cs:=#[.int .i64 0,.int .i64 0,.int .i64 0,.int .i64 0,.int .i64 0]) ?_ 4 _ rfl;refine blk_put (cs:=#[.int .i64 0,.int .i64 0,.int .i64 0,.int .i64 0,.int .i64 0]) ?_ 3 _ rfl;refine blk_put (cs:=#[.int .i64 0,.int .i64 0,.int .i64 0,.int .i64 0,.int .i64 0]) ?_ 2 _ rfl;refine blk_put (cs:=#[.int .i64 0,.int .i64 0,.int .i64 0,.int .i64 0,.int .i64 0]) ?_ 1 _ rfl;refine blk_put (cs:=#[.int .i64 0,.int .i64 0,.int .i64 0,.int .i64 0,.int .i64 0]) ?_ 0 _ rfl;exact ai.out) Try.underlying35 rfl (by kernel_rfl)) rfl ?_
  exact ⟨by (rfl),by repeat ((with_reducible first | exact HB.out | refine b_st ?_ ax.out))⟩
 rw [if_neg aF] at H
 obtain ⟨aG,aH⟩:=cBf aF
 simp only [Option.some.injEq,Prod.mk.injEq] at H
 obtain ⟨rfl,rfl,rfl,rfl,rfl,rfl⟩:=H
 have fl:=ab.out
 have fI:=ad.out
 have fm:=ac.out
 have fJ:=ae.out
 refine qc5 aa fun cB cC cD cE cF ey ez eA eB eC=>?_
 have fn:=ag.out
 have fK:=af.out
 refine qc5 ai fun cG cH cI cJ cK eD eE eF eG eH=>?_
 go_wp2
 refine bodyPost_ret (results_ct rfl _ _ an 35 #[.int .i64 0,.int .i64 0,.int .i64 0,.int .i64 0,.int .i64 0] (0,0) _ rfl (by refine blk_put (cs:=#[.int .i64 0,.int .i64 0,.int .i64 0,.int .i64 0,.int .i64 0]) ?_ 4 _ rfl;refine blk_put (cs:=#[.int .i64 0,.int .i64 0,.int .i64 0,.int .i64 0,.int .i64 0]) ?_ 3 _ rfl;refine blk_put (cs:=#[.int .i64 0,.int .i64 0,.int .i64 0,.int .i64 0,.int .i64 0]) ?_ 2 _ rfl;refine blk_put (cs:=#[.int .i64 0,.int .i64 0,.int .i64 0,.int .i64 0,.int .i64 0]) ?_ 1 _ rfl;refine blk_put (cs:=#[.int .i64 0,.int .i64 0,.int .i64 0,.int .i64 0,.int .i64 0]) ?_ 0 _ rfl;exact ai.out) Try.underlying35 rfl (by kernel_rfl)) rfl ?_
 exact ⟨by (rfl),by repeat ((with_reducible first | exact HB.out | refine b_st ?_ ax.out))⟩
def rgisMessage.f (l0_0:List (S30)) (a1:Int):Option (Bool):=if a1 ≥ 0 then (if a1 < (l0_0.length:Int) then (if 0≤a1 then (if (((rdP l0_0 a1).f0).length:Int) > 0 then (some true) else (some (decide ((((rdP l0_0 a1).f1).length:Int) > 0)))) else (none)) else (some false)) else (some false)
set_option maxHeartbeats 8000000 in
set_option maxRecDepth 100000 in
theorem rgisMessage.calls (ay:Option Addr) (az:Nat) (ad:List (S30)) (a1:Int) (r:Bool) (w:World) (aL:Kd.C k30 w ay ad.length ad) (aW:ad.length≤az) (h:rgisMessage.f ad a1=some r) :
    Calls Try.prog 30 #[.agg #[.slice ay ad.length az],.int .i64 a1] w fun e w'=>e=.returned (.bool r)∧Below w.heap.size w w':=by
 have bv:=Try.underlying24
 have aC:=Aside0.mk aL
 clear aL aW
 have HB:=Aside0.mk (Below.refl w.heap.size w)
 have H:(if a1 ≥ 0 then (if a1 < (ad.length:Int) then (if 0≤a1 then (if (((rdP ad a1).f0).length:Int) > 0 then (some true) else (some (decide ((((rdP ad a1).f1).length:Int) > 0)))) else (none)) else (some false)) else (some false))=some r:=h
 clear h
 by_cases c3:a1 ≥ 0
 ·rw [if_pos c3] at H
  have bn:decide (0≤a1)=true:=decide_eq_true c3
  clear c3
  by_cases c4:a1 < (ad.length:Int)
  ·rw [if_pos c4] at H
   have bo:=decide_eq_true c4
   clear c4
   replace H:=iNd H
   obtain ⟨bu,H⟩:=H
   by_cases c6:(((rdP ad a1).f0).length:Int) > 0
   ·rw [if_pos c6] at H
    have bp:decide (0 < (((rdP ad a1).f0).length:Int))=true:=decide_eq_true c6
    have bq:decide (0 < ((rdP ad a1).f0).length)=true:=decide_eq_true (by omega)
    clear c6
    obtain rfl:=Option.some.inj H
    go_enter Try.func30,Try.ntmps30
    go_wp2_with (first | ((with_reducible refine gate_dst (N:=2) rfl ?_);(try (refine gate_guard (by rfl) ?_;dsimp only));refine box_event ?hg (N:=2) ?hd (cs:=#[.slice ay ad.length az]) (t:=24) ?hr ?_;(case hd=>rfl);(case hg=>rfl);(case hr=>(go_simp;done));intro aD hg w7 hbox hb;have an:=Aside0.mk hbox;have aB:=qz HB hg;have aA:=qz HB hg;replace HB:=qs HB hb;clear hb hbox hg;refine qc1 an fun bs bt=>?_;have ao:0≤(a1:Int):=od;have ap:a1 < (ad.length:Int):=od;obtain ⟨aK,aM,aP,aN,aQ,aO,aR,aS,aa,ab,ac,ah,ae,ai,af,aj,ag⟩:=at_T30 aC.out a1 ao ap;cases aS;replace aa:=(HB.out.cell (World.block_lt_of_cell? w _ aa)).trans aa;replace ab:=(HB.out.cell (World.block_lt_of_cell? w _ ab)).trans ab;replace ac:=(HB.out.cell (World.block_lt_of_cell? w _ ac)).trans ac;have aH:=Aside0.mk ae;have aE:=Aside0.mk ah;clear ae ah;have aI:=Aside0.mk af;have aF:=Aside0.mk ai;clear af ai;have aJ:=Aside0.mk ag;have aG:=Aside0.mk aj;clear ag aj;replace ao:=eq_true ao;replace ap:=eq_true ap))
    go_ret
    exact ⟨by (rfl),HB.out⟩
   rw [if_neg c6] at H
   have bp:decide (0 < (((rdP ad a1).f0).length:Int))=false:=decide_eq_false c6
   have bq:decide (0 < ((rdP ad a1).f0).length)=false:=decide_eq_false (by omega)
   clear c6
   obtain rfl:=Option.some.inj H
   go_enter Try.func30,Try.ntmps30
   go_wp2_with (first | ((with_reducible refine gate_dst (N:=2) rfl ?_);(try (refine gate_guard (by rfl) ?_;dsimp only));refine box_event ?hg (N:=2) ?hd (cs:=#[.slice ay ad.length az]) (t:=24) ?hr ?_;(case hd=>rfl);(case hg=>rfl);(case hr=>(go_simp;done));intro aD hg w9 hbox hb;have an:=Aside0.mk hbox;have aB:=qz HB hg;have aA:=qz HB hg;replace HB:=qs HB hb;clear hb hbox hg;refine qc1 an fun bd bf=>?_;have ao:0≤(a1:Int):=od;have ap:a1 < (ad.length:Int):=od;obtain ⟨aK,aM,aP,aN,aQ,aO,aR,aS,aa,ab,ac,ah,ae,ai,af,aj,ag⟩:=at_T30 aC.out a1 ao ap;cases aS;replace aa:=(HB.out.cell (World.block_lt_of_cell? w _ aa)).trans aa;replace ab:=(HB.out.cell (World.block_lt_of_cell? w _ ab)).trans ab;replace ac:=(HB.out.cell (World.block_lt_of_cell? w _ ac)).trans ac;have aH:=Aside0.mk ae;have aE:=Aside0.mk ah;clear ae ah;have aI:=Aside0.mk af;have aF:=Aside0.mk ai;clear af ai;have aJ:=Aside0.mk ag;have aG:=Aside0.mk aj;clear ag aj;replace ao:=eq_true ao;replace ap:=eq_true ap;have aT:0≤(a1:Int):=od;have aU:a1 < (ad.length:Int):=od;obtain ⟨aV,bh,bk,bi,bl,bj,bm,br,ak,al,am,av,aq,aw,ar,ax,au⟩:=at_T30 aC.out a1 aT aU;obtain rfl:aK=aV:=(by injection br);replace ak:=(HB.out.cell (World.block_lt_of_cell? w _ ak)).trans ak;replace al:=(HB.out.cell (World.block_lt_of_cell? w _ al)).trans al;replace am:=(HB.out.cell (World.block_lt_of_cell? w _ am)).trans am;have ba:=Aside0.mk aq;have aX:=Aside0.mk av;clear aq av;have bb:=Aside0.mk ar;have aY:=Aside0.mk aw;clear ar aw;have bc:=Aside0.mk au;have aZ:=Aside0.mk ax;clear au ax;replace aT:=eq_true aT;replace aU:=eq_true aU;have ea_:=Option.some.inj (aa.symm.trans ak);injection ea_ with ea_ en_ ec_;subst ea_;subst ec_;clear en_;have ea_:=Option.some.inj (ab.symm.trans al);injection ea_ with ea_ en_ ec_;subst ea_;subst ec_;clear en_;have ea_:=Option.some.inj (ac.symm.trans am);injection ea_ with ea_ en_ ec_;subst ea_;subst ec_;clear en_))
   go_ret
   exact ⟨by (rfl),HB.out⟩
  rw [if_neg c4] at H
  have bo:=decide_eq_false c4
  clear c4
  obtain rfl:=Option.some.inj H
  go_enter Try.func30,Try.ntmps30
  go_wp2_with (((with_reducible refine gate_dst (N:=2) rfl ?_);(try (refine gate_guard (by rfl) ?_;dsimp only));refine box_event ?hg (N:=2) ?hd (cs:=#[.slice ay ad.length az]) (t:=24) ?hr ?_;(case hd=>rfl);(case hg=>rfl);(case hr=>(go_simp;done));intro aD hg bw hbox hb;have an:=Aside0.mk hbox;have aB:=qz HB hg;have aA:=qz HB hg;replace HB:=qs HB hb;clear hb hbox hg;refine qc1 an fun be bg=>?_))
  go_ret
  exact ⟨by (rfl),HB.out⟩
 rw [if_neg c3] at H
 have bn:decide (0≤a1)=false:=decide_eq_false c3
 clear c3
 obtain rfl:=Option.some.inj H
 go_enter Try.func30,Try.ntmps30
 go_wp2_with (((with_reducible refine gate_dst (N:=2) rfl ?_);(try (refine gate_guard (by rfl) ?_;dsimp only));refine box_event ?hg (N:=2) ?hd (cs:=#[.slice ay ad.length az]) (t:=24) ?hr ?_;(case hd=>rfl);(case hg=>rfl);(case hr=>(go_simp;done));intro aD hg bx hbox hb;have an:=Aside0.mk hbox;have aB:=qz HB hg;have aA:=qz HB hg;replace HB:=qs HB hb;clear hb hbox hg))
 go_ret
 exact ⟨by (rfl),HB.out⟩
def rgisField.f (a0:Int):Option (Bool):=if a0 ≥ 1 then (some (decide (a0≤536870911))) else (some false)
set_option maxHeartbeats 8000000 in
set_option maxRecDepth 100000 in
theorem rgisField.calls (a0:Int) (r:Bool) (w:World) (h:rgisField.f a0=some r) :
  Calls Try.prog 74 #[.int .i64 a0] w fun e w'=>e=.returned (.bool r)∧Drawn0 w w':=by
 have H:(if a0 ≥ 1 then (some (decide (a0≤536870911))) else (some false))=some r:=h
 clear h
 by_cases c2:a0 ≥ 1
 ·rw [if_pos c2] at H
  have c2b0:decide (1≤a0)=true:=decide_eq_true c2
  clear c2
  obtain rfl:=Option.some.inj H
  go_enter Try.func74,Try.ntmps74
  go_wp2
  go_ret
  exact ⟨by first | rfl | (simp;done) | (simp [*];done),by repeat (first | exact Drawn0.refl _ | apply Drawn0.step)⟩
 ·rw [if_neg c2] at H
  have c2b0:decide (1≤a0)=false:=decide_eq_false c2
  clear c2
  obtain rfl:=Option.some.inj H
  go_enter Try.func74,Try.ntmps74
  go_wp2
  go_ret
  exact ⟨by first | rfl | (simp;done) | (simp [*];done),by repeat (first | exact Drawn0.refl _ | apply Drawn0.step)⟩
def rgisTag.f (a0:Int):Option (Bool):=if a0 ≥ 8 then ((rgisField.f (wrap64 (Int.tdiv a0 8))).bind fun t229=>(if t229=true then (if (Int.tmod a0 8)=0 then (some true) else (if (Int.tmod a0 8)=1 then (some true) else (if (Int.tmod a0 8)=2 then (some true) else (some ((Int.tmod a0 8) == 5))))) else (some false))) else (some false)
set_option maxHeartbeats 8000000 in
set_option maxRecDepth 100000 in
theorem rgisTag.calls (a0:Int) (r:Bool) (w:World) (h:rgisTag.f a0=some r) :
    Calls Try.prog 53 #[.int .i64 a0] w fun e w'=>e=.returned (.bool r)∧Drawn0 w w':=by
 have H:(if a0 ≥ 8 then ((rgisField.f (wrap64 (Int.tdiv a0 8))).bind fun aa=>(if aa=true then (if (Int.tmod a0 8)=0 then (some true) else (if (Int.tmod a0 8)=1 then (some true) else (if (Int.tmod a0 8)=2 then (some true) else (some ((Int.tmod a0 8) == 5))))) else (some false))) else (some false))=some r:=h
 clear h
 by_cases c2:a0 ≥ 8
 ·rw [if_pos c2] at H
  have ab:decide (8≤a0)=true:=decide_eq_true c2
  clear c2
  replace H:=Option.bind_eq_some_iff.mp H
  obtain ⟨aa,ai,H⟩:=H
  try dsimp only at H
  have A3:=Aside0.mk ai
  clear ai
  by_cases c4:aa=true
  ·subst c4
   replace H:=iP H
   by_cases c5:(Int.tmod a0 8)=0
   ·rw [if_pos c5] at H
    obtain ⟨ac,ad⟩:=cBt c5
    clear c5
    obtain rfl:=Option.some.inj H
    go_enter Try.func53,Try.ntmps53
    go_wp2_with (first | (go_at_call 74;(with_reducible refine (rgisField.calls (wrap64 (Int.tdiv a0 8)) true _ A3.out).mono ?_);rintro e w' ⟨rfl,⟨nd,rfl⟩⟩))
    go_ret
    exact ⟨by (rfl),by repeat (first | exact Drawn0.refl _ | apply Drawn0.step)⟩
   rw [if_neg c5] at H
   obtain ⟨ac,ad⟩:=cBf c5
   by_cases c6:(Int.tmod a0 8)=1
   ·rw [if_pos c6] at H
    obtain ⟨ae,af⟩:=cBt c6
    clear c6
    obtain rfl:=Option.some.inj H
    go_enter Try.func53,Try.ntmps53
    go_wp2_with (first | (go_at_call 74;(with_reducible refine (rgisField.calls (wrap64 (Int.tdiv a0 8)) true _ A3.out).mono ?_);rintro e w' ⟨rfl,⟨nd,rfl⟩⟩))
    go_ret
    exact ⟨by (rfl),by repeat (first | exact Drawn0.refl _ | apply Drawn0.step)⟩
   rw [if_neg c6] at H
   obtain ⟨ae,af⟩:=cBf c6
   by_cases c7:(Int.tmod a0 8)=2
   ·rw [if_pos c7] at H
    obtain ⟨ag,ah⟩:=cBt c7
    clear c7
    obtain rfl:=Option.some.inj H
    go_enter Try.func53,Try.ntmps53
    go_wp2_with (first | (go_at_call 74;(with_reducible refine (rgisField.calls (wrap64 (Int.tdiv a0 8)) true _ A3.out).mono ?_);rintro e w' ⟨rfl,⟨nd,rfl⟩⟩))
    go_ret
    exact ⟨by (rfl),by repeat (first | exact Drawn0.refl _ | apply Drawn0.step)⟩
   rw [if_neg c7] at H
   obtain ⟨ag,ah⟩:=cBf c7
   obtain rfl:=Option.some.inj H
   go_enter Try.func53,Try.ntmps53
   go_wp2_with (first | (go_at_call 74;(with_reducible refine (rgisField.calls (wrap64 (Int.tdiv a0 8)) true _ A3.out).mono ?_);rintro e w' ⟨rfl,⟨nd,rfl⟩⟩))
   go_ret
   exact ⟨by (rfl),by repeat (first | exact Drawn0.refl _ | apply Drawn0.step)⟩
  replace c4:=Bool.eq_false_iff.mpr c4
  subst c4
  replace H:=iF H
  obtain rfl:=Option.some.inj H
  go_enter Try.func53,Try.ntmps53
  go_wp2_with (first | (go_at_call 74;(with_reducible refine (rgisField.calls (wrap64 (Int.tdiv a0 8)) false _ A3.out).mono ?_);rintro e w' ⟨rfl,⟨nd,rfl⟩⟩))
  go_ret
  exact ⟨by (rfl),by repeat (first | exact Drawn0.refl _ | apply Drawn0.step)⟩
 rw [if_neg c2] at H
 have ab:decide (8≤a0)=false:=decide_eq_false c2
 clear c2
 obtain rfl:=Option.some.inj H
 go_enter Try.func53,Try.ntmps53
 go_wp2
 go_ret
 exact ⟨by (rfl),by repeat (exact Drawn0.refl _)⟩
mutual
def rgArity.j0:Nat→Int→Bool→Option (Int)
  | 0,_,_=>none
  | k+1,x3,x4=>if x4=true then (some 2) else (if x3=3 then (rgArity.j1 k x3 (x3 == 3)) else (if x3=4 then (rgArity.j1 k x3 (x3 == 4)) else (if x3=5 then (rgArity.j1 k x3 (x3 == 5)) else (if x3=6 then (rgArity.j1 k x3 (x3 == 6)) else (if x3=7 then (rgArity.j1 k x3 (x3 == 7)) else (if x3=8 then (rgArity.j1 k x3 (x3 == 8)) else (if x3=9 then (rgArity.j1 k x3 (x3 == 9)) else (if x3=17 then (rgArity.j1 k x3 (x3 == 17)) else (if x3=18 then (rgArity.j1 k x3 (x3 == 18)) else (rgArity.j1 k x3 (x3 == 19)))))))))))
def rgArity.j1:Nat→Int→Bool→Option (Int)
  | 0,_,_=>none
  | k+1,x3,x10=>if x10=true then (some 1) else (if x3=10 then (rgArity.j2 k x3 (x3 == 10)) else (if x3=11 then (rgArity.j2 k x3 (x3 == 11)) else (if x3=16 then (rgArity.j2 k x3 (x3 == 16)) else (rgArity.j2 k x3 (x3 == 20)))))
def rgArity.j2:Nat→Int→Bool→Option (Int)
  | 0,_,_=>none
  | k+1,x3,x21=>if x21=true then (some 3) else (if x3=12 then (some 4) else (if x3=22 then (some 4) else (some 0)))
end
def rgArity.f (k:Nat) (a0:Int):Option (Int):=if a0=2 then (rgArity.j0 k a0 (a0 == 2)) else (if a0=14 then (rgArity.j0 k a0 (a0 == 14)) else (if a0=15 then (rgArity.j0 k a0 (a0 == 15)) else (if a0=21 then (rgArity.j0 k a0 (a0 == 21)) else (rgArity.j0 k a0 (a0 == 25)))))
set_option maxHeartbeats 8000000 in
set_option maxRecDepth 100000 in
theorem rgArity.calls (k:Nat) (a0:Int) (r:Int) (w:World) (h:rgArity.f k a0=some r) :
    Calls Try.prog 71 #[.int .i64 a0] w fun e w'=>e=.returned (.int .i64 r)∧Drawn0 w w':=by
 have H:(if a0=2 then (rgArity.j0 k a0 (a0 == 2)) else (if a0=14 then (rgArity.j0 k a0 (a0 == 14)) else (if a0=15 then (rgArity.j0 k a0 (a0 == 15)) else (if a0=21 then (rgArity.j0 k a0 (a0 == 21)) else (rgArity.j0 k a0 (a0 == 25))))))=some r:=h
 clear h
 have aZ:=Aside0.mk H
 clear H
 go_enter Try.func71,Try.ntmps71
 go_upto_if 4 with (fail)
 go_cut [4] (fun v4 wc=>∃ (kq:Nat) (ae:Bool),v4=.bool ae∧Aside0 (rgArity.j0 kq a0 ae=some r)∧Aside0 (kq≤k)∧Drawn0 w wc)
 case first =>
  have H:=aZ.out
  clear aZ
  by_cases c3:a0=2
  ·rw [if_pos c3] at H
   obtain ⟨ag,bb⟩:=cBt c3
   clear c3
   (rw [ag])
   have H':=Aside0.mk H
   clear H
   go_wp2
   go_meet
   case rel=>exact ⟨_,((a0 == 2)),(by (simp [*];done)),H',⟨by omega⟩,by repeat (exact Drawn0.refl _)⟩
  rw [if_neg c3] at H
  obtain ⟨ag,bb⟩:=cBf c3
  (rw [ag])
  by_cases c4:a0=14
  ·rw [if_pos c4] at H
   obtain ⟨bc,bd⟩:=cBt c4
   clear c4
   have H':=Aside0.mk H
   clear H
   go_wp2
   go_meet
   case rel=>exact ⟨_,((a0 == 14)),(by (simp [*];done)),H',⟨by omega⟩,by repeat (exact Drawn0.refl _)⟩
  rw [if_neg c4] at H
  obtain ⟨bc,bd⟩:=cBf c4
  by_cases c5:a0=15
  ·rw [if_pos c5] at H
   obtain ⟨be,bf⟩:=cBt c5
   clear c5
   have H':=Aside0.mk H
   clear H
   go_wp2
   go_meet
   case rel=>exact ⟨_,((a0 == 15)),(by (simp [*];done)),H',⟨by omega⟩,by repeat (exact Drawn0.refl _)⟩
  rw [if_neg c5] at H
  obtain ⟨be,bf⟩:=cBf c5
  by_cases c6:a0=21
  ·rw [if_pos c6] at H
   obtain ⟨bg,bh⟩:=cBt c6
   clear c6
   have H':=Aside0.mk H
   clear H
   go_wp2
   go_meet
   case rel=>exact ⟨_,((a0 == 21)),(by (simp [*];done)),H',⟨by omega⟩,by repeat (exact Drawn0.refl _)⟩
  rw [if_neg c6] at H
  obtain ⟨bg,bh⟩:=cBf c6
  have H':=Aside0.mk H
  clear H
  go_wp2
  go_meet
  case rel=>exact ⟨_,((a0 == 25)),rfl,H',⟨by omega⟩,by repeat (exact Drawn0.refl _)⟩
 clear aZ
 obtain ⟨kq,ae,rfl,HA,ab,⟨bq,rfl⟩⟩:=hcut
 obtain _ | bk:=kq
 ·exact absurd HA.out (by simp [rgArity.j0])
 have H:=HA.out
 clear HA
 simp only [rgArity.j0] at H
 by_cases c7:ae=true
 ·subst c7
  replace H:=iP H
  obtain rfl:=Option.some.inj H
  go_wp2
  go_ret
  exact ⟨by (rfl),by repeat (first | exact Drawn0.refl _ | apply Drawn0.step)⟩
 replace c7:=Bool.eq_false_iff.mpr c7
 subst c7
 replace H:=iF H
 have ba:=Aside0.mk H
 clear H
 go_upto_if 10 with (fail)
 go_cut [10] (fun bo wc=>∃ (kq:Nat) (ac:Bool),bo=.bool ac∧Aside0 (rgArity.j1 kq a0 ac=some r)∧Aside0 (kq≤bk)∧Drawn0 w wc)
 case first =>
  have H:=ba.out
  clear ba
  by_cases c9:a0=3
  ·rw [if_pos c9] at H
   obtain ⟨ah,bi⟩:=cBt c9
   clear c9
   (rw [ah])
   have H':=Aside0.mk H
   clear H
   go_wp2
   go_meet
   case rel=>exact ⟨_,((a0 == 3)),(by (simp [*];done)),H',⟨by have:=ab.out;(omega)⟩,by repeat (first | exact Drawn0.refl _ | apply Drawn0.step)⟩
  rw [if_neg c9] at H
  obtain ⟨ah,bi⟩:=cBf c9
  (rw [ah])
  by_cases ai:a0=4
  ·rw [if_pos ai] at H
   obtain ⟨aj,ak⟩:=cBt ai
   clear ai
   have H':=Aside0.mk H
   clear H
   go_wp2
   go_meet
   case rel=>exact ⟨_,((a0 == 4)),(by (simp [*];done)),H',⟨by have:=ab.out;(omega)⟩,by repeat (first | exact Drawn0.refl _ | apply Drawn0.step)⟩
  rw [if_neg ai] at H
  obtain ⟨aj,ak⟩:=cBf ai
  by_cases al:a0=5
  ·rw [if_pos al] at H
   obtain ⟨am,an⟩:=cBt al
   clear al
   have H':=Aside0.mk H
   clear H
   go_wp2
   go_meet
   case rel=>exact ⟨_,((a0 == 5)),(by (simp [*];done)),H',⟨by have:=ab.out;(omega)⟩,by repeat (first | exact Drawn0.refl _ | apply Drawn0.step)⟩
  rw [if_neg al] at H
  obtain ⟨am,an⟩:=cBf al
  by_cases ao:a0=6
  ·rw [if_pos ao] at H
   obtain ⟨ap,aq⟩:=cBt ao
   clear ao
   have H':=Aside0.mk H
   clear H
   go_wp2
   go_meet
   case rel=>exact ⟨_,((a0 == 6)),(by (simp [*];done)),H',⟨by have:=ab.out;(omega)⟩,by repeat (first | exact Drawn0.refl _ | apply Drawn0.step)⟩
  rw [if_neg ao] at H
  obtain ⟨ap,aq⟩:=cBf ao
  by_cases ar:a0=7
  ·rw [if_pos ar] at H
   obtain ⟨au,av⟩:=cBt ar
   clear ar
   have H':=Aside0.mk H
   clear H
   go_wp2
   go_meet
   case rel=>exact ⟨_,((a0 == 7)),(by (simp [*];done)),H',⟨by have:=ab.out;(omega)⟩,by repeat (first | exact Drawn0.refl _ | apply Drawn0.step)⟩
  rw [if_neg ar] at H
  obtain ⟨au,av⟩:=cBf ar
  by_cases aw:a0=8
  ·rw [if_pos aw] at H
   obtain ⟨ax,ay⟩:=cBt aw
   clear aw
   have H':=Aside0.mk H
   clear H
   go_wp2
   go_meet
   case rel=>exact ⟨_,((a0 == 8)),(by (simp [*];done)),H',⟨by have:=ab.out;(omega)⟩,by repeat (first | exact Drawn0.refl _ | apply Drawn0.step)⟩
  rw [if_neg aw] at H
  obtain ⟨ax,ay⟩:=cBf aw
  by_cases az:a0=9
  ·rw [if_pos az] at H
   obtain ⟨aA,aB⟩:=cBt az
   clear az
   have H':=Aside0.mk H
   clear H
   go_wp2
   go_meet
   case rel=>exact ⟨_,((a0 == 9)),(by (simp [*];done)),H',⟨by have:=ab.out;(omega)⟩,by repeat (first | exact Drawn0.refl _ | apply Drawn0.step)⟩
  rw [if_neg az] at H
  obtain ⟨aA,aB⟩:=cBf az
  by_cases aC:a0=17
  ·rw [if_pos aC] at H
   obtain ⟨aD,aE⟩:=cBt aC
   clear aC
   have H':=Aside0.mk H
   clear H
   go_wp2
   go_meet
   case rel=>exact ⟨_,((a0 == 17)),(by (simp [*];done)),H',⟨by have:=ab.out;(omega)⟩,by repeat (first | exact Drawn0.refl _ | apply Drawn0.step)⟩
  rw [if_neg aC] at H
  obtain ⟨aD,aE⟩:=cBf aC
  by_cases aF:a0=18
  ·rw [if_pos aF] at H
   obtain ⟨aG,aH⟩:=cBt aF
   clear aF
   have H':=Aside0.mk H
   clear H
   go_wp2
   go_meet
   case rel=>exact ⟨_,((a0 == 18)),(by (simp [*];done)),H',⟨by have:=ab.out;(omega)⟩,by repeat (first | exact Drawn0.refl _ | apply Drawn0.step)⟩
  rw [if_neg aF] at H
  obtain ⟨aG,aH⟩:=cBf aF
  have H':=Aside0.mk H
  clear H
  go_wp2
  go_meet
  case rel=>exact ⟨_,((a0 == 19)),rfl,H',⟨by have:=ab.out;(omega)⟩,by repeat (first | exact Drawn0.refl _ | apply Drawn0.step)⟩
 clear ba
 obtain ⟨kq,ac,rfl,HA,aW,⟨br,rfl⟩⟩:=hcut
 obtain _ | bm:=kq
 ·exact absurd HA.out (by simp [rgArity.j1])
 have H:=HA.out
 clear HA
 simp only [rgArity.j1] at H
 by_cases aX:ac=true
 ·subst aX
  replace H:=iP H
  obtain rfl:=Option.some.inj H
  go_wp2
  go_ret
  exact ⟨by (rfl),by repeat (first | exact Drawn0.refl _ | apply Drawn0.step)⟩
 replace aX:=Bool.eq_false_iff.mpr aX
 subst aX
 replace H:=iF H
 have af:=Aside0.mk H
 clear H
 go_upto_if 21 with (fail)
 go_cut [21] (fun bp wc=>∃ (kq:Nat) (aa:Bool),bp=.bool aa∧Aside0 (rgArity.j2 kq a0 aa=some r)∧Aside0 (kq≤bm)∧Drawn0 w wc)
 case first =>
  have H:=af.out
  clear af
  by_cases aI:a0=10
  ·rw [if_pos aI] at H
   obtain ⟨ad,aJ⟩:=cBt aI
   clear aI
   (rw [ad])
   have H':=Aside0.mk H
   clear H
   go_wp2
   go_meet
   case rel=>exact ⟨_,((a0 == 10)),(by (simp [*];done)),H',⟨by have:=ab.out;have:=aW.out;(omega)⟩,by repeat (first | exact Drawn0.refl _ | apply Drawn0.step)⟩
  rw [if_neg aI] at H
  obtain ⟨ad,aJ⟩:=cBf aI
  (rw [ad])
  by_cases aK:a0=11
  ·rw [if_pos aK] at H
   obtain ⟨aL,aM⟩:=cBt aK
   clear aK
   have H':=Aside0.mk H
   clear H
   go_wp2
   go_meet
   case rel=>exact ⟨_,((a0 == 11)),(by (simp [*];done)),H',⟨by have:=ab.out;have:=aW.out;(omega)⟩,by repeat (first | exact Drawn0.refl _ | apply Drawn0.step)⟩
  rw [if_neg aK] at H
  obtain ⟨aL,aM⟩:=cBf aK
  by_cases aN:a0=16
  ·rw [if_pos aN] at H
   obtain ⟨aO,aP⟩:=cBt aN
   clear aN
   have H':=Aside0.mk H
   clear H
   go_wp2
   go_meet
   case rel=>exact ⟨_,((a0 == 16)),(by (simp [*];done)),H',⟨by have:=ab.out;have:=aW.out;(omega)⟩,by repeat (first | exact Drawn0.refl _ | apply Drawn0.step)⟩
  rw [if_neg aN] at H
  obtain ⟨aO,aP⟩:=cBf aN
  have H':=Aside0.mk H
  clear H
  go_wp2
  go_meet
  case rel=>exact ⟨_,((a0 == 20)),rfl,H',⟨by have:=ab.out;have:=aW.out;(omega)⟩,by repeat (first | exact Drawn0.refl _ | apply Drawn0.step)⟩
 clear af
 obtain ⟨kq,aa,rfl,HA,bj,⟨bn,rfl⟩⟩:=hcut
 obtain _ | bl:=kq
 ·exact absurd HA.out (by simp [rgArity.j2])
 have H:=HA.out
 clear HA
 simp only [rgArity.j2] at H
 by_cases aY:aa=true
 ·subst aY
  replace H:=iP H
  obtain rfl:=Option.some.inj H
  go_wp2
  go_ret
  exact ⟨by (rfl),by repeat (first | exact Drawn0.refl _ | apply Drawn0.step)⟩
 replace aY:=Bool.eq_false_iff.mpr aY
 subst aY
 replace H:=iF H
 by_cases aQ:a0=12
 ·rw [if_pos aQ] at H
  obtain ⟨aR,aS⟩:=cBt aQ
  clear aQ
  obtain rfl:=Option.some.inj H
  go_wp2
  go_ret
  exact ⟨by (rfl),by repeat (first | exact Drawn0.refl _ | apply Drawn0.step)⟩
 rw [if_neg aQ] at H
 obtain ⟨aR,aS⟩:=cBf aQ
 by_cases aT:a0=22
 ·rw [if_pos aT] at H
  obtain ⟨aU,aV⟩:=cBt aT
  clear aT
  obtain rfl:=Option.some.inj H
  go_wp2
  go_ret
  exact ⟨by (rfl),by repeat (first | exact Drawn0.refl _ | apply Drawn0.step)⟩
 rw [if_neg aT] at H
 obtain ⟨aU,aV⟩:=cBf aT
 obtain rfl:=Option.some.inj H
 go_wp2
 go_ret
 exact ⟨by (rfl),by repeat (first | exact Drawn0.refl _ | apply Drawn0.step)⟩
def rgisScalar.f (a0:Int):Option (Bool):=if a0 ≥ 1 then (some (decide (a0≤16))) else (some false)
set_option maxHeartbeats 8000000 in
set_option maxRecDepth 100000 in
theorem rgisScalar.calls (a0:Int) (r:Bool) (w:World) (h:rgisScalar.f a0=some r) :
  Calls Try.prog 72 #[.int .i64 a0] w fun e w'=>e=.returned (.bool r)∧Drawn0 w w':=by
 have H:(if a0 ≥ 1 then (some (decide (a0≤16))) else (some false))=some r:=h
 clear h
 by_cases c2:a0 ≥ 1
 ·rw [if_pos c2] at H
  have c2b0:decide (1≤a0)=true:=decide_eq_true c2
  clear c2
  obtain rfl:=Option.some.inj H
  go_enter Try.func72,Try.ntmps72
  go_wp2
  go_ret
  exact ⟨by first | rfl | (simp;done) | (simp [*];done),by repeat (first | exact Drawn0.refl _ | apply Drawn0.step)⟩
 ·rw [if_neg c2] at H
  have c2b0:decide (1≤a0)=false:=decide_eq_false c2
  clear c2
  obtain rfl:=Option.some.inj H
  go_enter Try.func72,Try.ntmps72
  go_wp2
  go_ret
  exact ⟨by first | rfl | (simp;done) | (simp [*];done),by repeat (first | exact Drawn0.refl _ | apply Drawn0.step)⟩
def rgisEnum.f (l0_0:List (S30)) (a1:Int):Option (Bool):=if a1 ≥ 0 then (if a1 < (l0_0.length:Int) then (if 0≤a1 then (if (((rdP l0_0 a1).f0).length:Int)=0 then (some ((((rdP l0_0 a1).f1).length:Int) == 0)) else (some false)) else (none)) else (some false)) else (some false)
set_option maxHeartbeats 8000000 in
set_option maxRecDepth 100000 in
theorem rgisEnum.calls (ay:Option Addr) (az:Nat) (ad:List (S30)) (a1:Int) (r:Bool) (w:World) (aL:Kd.C k30 w ay ad.length ad) (aW:ad.length≤az) (h:rgisEnum.f ad a1=some r) :
    Calls Try.prog 73 #[.agg #[.slice ay ad.length az],.int .i64 a1] w fun e w'=>e=.returned (.bool r)∧Below w.heap.size w w':=by
 have bw:=Try.underlying24
 have aC:=Aside0.mk aL
 clear aL aW
 have HB:=Aside0.mk (Below.refl w.heap.size w)
 have H:(if a1 ≥ 0 then (if a1 < (ad.length:Int) then (if 0≤a1 then (if (((rdP ad a1).f0).length:Int)=0 then (some ((((rdP ad a1).f1).length:Int) == 0)) else (some false)) else (none)) else (some false)) else (some false))=some r:=h
 clear h
 by_cases c3:a1 ≥ 0
 ·rw [if_pos c3] at H
  have bn:decide (0≤a1)=true:=decide_eq_true c3
  clear c3
  by_cases c4:a1 < (ad.length:Int)
  ·rw [if_pos c4] at H
   have bo:=decide_eq_true c4
   clear c4
   replace H:=iNd H
   obtain ⟨bu,H⟩:=H
   by_cases c6:(((rdP ad a1).f0).length:Int)=0
   ·rw [if_pos c6] at H
    obtain ⟨bp,bq⟩:=cBt c6
    clear c6
    obtain rfl:=Option.some.inj H
    go_enter Try.func73,Try.ntmps73
    go_wp2_with (first | ((with_reducible refine gate_dst (N:=2) rfl ?_);(try (refine gate_guard (by rfl) ?_;dsimp only));refine box_event ?hg (N:=2) ?hd (cs:=#[.slice ay ad.length az]) (t:=24) ?hr ?_;(case hd=>rfl);(case hg=>rfl);(case hr=>(go_simp;done));intro aD hg w7 hbox hb;have an:=Aside0.mk hbox;have aB:=qz HB hg;have aA:=qz HB hg;replace HB:=qs HB hb;clear hb hbox hg;refine qc1 an fun bs bt=>?_;have ao:0≤(a1:Int):=od;have ap:a1 < (ad.length:Int):=od;obtain ⟨aK,aM,aP,aN,aQ,aO,aR,aS,aa,ab,ac,ah,ae,ai,af,aj,ag⟩:=at_T30 aC.out a1 ao ap;cases aS;replace aa:=(HB.out.cell (World.block_lt_of_cell? w _ aa)).trans aa;replace ab:=(HB.out.cell (World.block_lt_of_cell? w _ ab)).trans ab;replace ac:=(HB.out.cell (World.block_lt_of_cell? w _ ac)).trans ac;have aH:=Aside0.mk ae;have aE:=Aside0.mk ah;clear ae ah;have aI:=Aside0.mk af;have aF:=Aside0.mk ai;clear af ai;have aJ:=Aside0.mk ag;have aG:=Aside0.mk aj;clear ag aj;replace ao:=eq_true ao;replace ap:=eq_true ap;have aT:0≤(a1:Int):=od;have aU:a1 < (ad.length:Int):=od;obtain ⟨aV,bh,bk,bi,bl,bj,bm,br,ak,al,am,av,aq,aw,ar,ax,au⟩:=at_T30 aC.out a1 aT aU;obtain rfl:aK=aV:=(by injection br);replace ak:=(HB.out.cell (World.block_lt_of_cell? w _ ak)).trans ak;replace al:=(HB.out.cell (World.block_lt_of_cell? w _ al)).trans al;replace am:=(HB.out.cell (World.block_lt_of_cell? w _ am)).trans am;have ba:=Aside0.mk aq;have aX:=Aside0.mk av;clear aq av;have bb:=Aside0.mk ar;have aY:=Aside0.mk aw;clear ar aw;have bc:=Aside0.mk au;have aZ:=Aside0.mk ax;clear au ax;replace aT:=eq_true aT;replace aU:=eq_true aU;have ea_:=Option.some.inj (aa.symm.trans ak);injection ea_ with ea_ en_ ec_;subst ea_;subst ec_;clear en_;have ea_:=Option.some.inj (ab.symm.trans al);injection ea_ with ea_ en_ ec_;subst ea_;subst ec_;clear en_;have ea_:=Option.some.inj (ac.symm.trans am);injection ea_ with ea_ en_ ec_;subst ea_;subst ec_;clear en_))
    go_ret
    exact ⟨by (rfl),HB.out⟩
   rw [if_neg c6] at H
   obtain ⟨bp,bq⟩:=cBf c6
   have bv:¬ (((rdP ad a1).f0)=[]):=fun h_=>c6 (by rw [h_];rfl)
   obtain rfl:=Option.some.inj H
   go_enter Try.func73,Try.ntmps73
   go_wp2_with (first | ((with_reducible refine gate_dst (N:=2) rfl ?_);(try (refine gate_guard (by rfl) ?_;dsimp only));refine box_event ?hg (N:=2) ?hd (cs:=#[.slice ay ad.length az]) (t:=24) ?hr ?_;(case hd=>rfl);(case hg=>rfl);(case hr=>(go_simp;done));intro aD hg w9 hbox hb;have an:=Aside0.mk hbox;have aB:=qz HB hg;have aA:=qz HB hg;replace HB:=qs HB hb;clear hb hbox hg;refine qc1 an fun bd bf=>?_;have ao:0≤(a1:Int):=od;have ap:a1 < (ad.length:Int):=od;obtain ⟨aK,aM,aP,aN,aQ,aO,aR,aS,aa,ab,ac,ah,ae,ai,af,aj,ag⟩:=at_T30 aC.out a1 ao ap;cases aS;replace aa:=(HB.out.cell (World.block_lt_of_cell? w _ aa)).trans aa;replace ab:=(HB.out.cell (World.block_lt_of_cell? w _ ab)).trans ab;replace ac:=(HB.out.cell (World.block_lt_of_cell? w _ ac)).trans ac;have aH:=Aside0.mk ae;have aE:=Aside0.mk ah;clear ae ah;have aI:=Aside0.mk af;have aF:=Aside0.mk ai;clear af ai;have aJ:=Aside0.mk ag;have aG:=Aside0.mk aj;clear ag aj;replace ao:=eq_true ao;replace ap:=eq_true ap))
   go_ret
   exact ⟨by (rfl),HB.out⟩
  rw [if_neg c4] at H
  have bo:=decide_eq_false c4
  clear c4
  obtain rfl:=Option.some.inj H
  go_enter Try.func73,Try.ntmps73
  go_wp2_with (((with_reducible refine gate_dst (N:=2) rfl ?_);(try (refine gate_guard (by rfl) ?_;dsimp only));refine box_event ?hg (N:=2) ?hd (cs:=#[.slice ay ad.length az]) (t:=24) ?hr ?_;(case hd=>rfl);(case hg=>rfl);(case hr=>(go_simp;done));intro aD hg bx hbox hb;have an:=Aside0.mk hbox;have aB:=qz HB hg;have aA:=qz HB hg;replace HB:=qs HB hb;clear hb hbox hg;refine qc1 an fun be bg=>?_))
  go_ret
  exact ⟨by (rfl),HB.out⟩
 rw [if_neg c3] at H
 have bn:decide (0≤a1)=false:=decide_eq_false c3
 clear c3
 obtain rfl:=Option.some.inj H
 go_enter Try.func73,Try.ntmps73
 go_wp2_with (((with_reducible refine gate_dst (N:=2) rfl ?_);(try (refine gate_guard (by rfl) ?_;dsimp only));refine box_event ?hg (N:=2) ?hd (cs:=#[.slice ay ad.length az]) (t:=24) ?hr ?_;(case hd=>rfl);(case hg=>rfl);(case hr=>(go_simp;done));intro aD hg bz hbox hb;have an:=Aside0.mk hbox;have aB:=qz HB hg;have aA:=qz HB hg;replace HB:=qs HB hb;clear hb hbox hg))
 go_ret
 exact ⟨by (rfl),HB.out⟩
mutual
def rcWire.j0:Nat→Int→Bool→Option (Int)
  | 0,_,_=>none
  | k+1,x3,x4=>if x4=true then (some 0) else (if x3=8 then (rcWire.j1 k x3 (x3 == 8)) else (if x3=10 then (rcWire.j1 k x3 (x3 == 10)) else (rcWire.j1 k x3 (x3 == 12))))
def rcWire.j1:Nat→Int→Bool→Option (Int)
  | 0,_,_=>none
  | k+1,x3,x13=>if x13=true then (some 5) else (if x3=9 then (rcWire.j2 k x3 (x3 == 9)) else (if x3=11 then (rcWire.j2 k x3 (x3 == 11)) else (rcWire.j2 k x3 (x3 == 13))))
def rcWire.j2:Nat→Int→Bool→Option (Int)
  | 0,_,_=>none
  | k+1,x3,x17=>if x17=true then (some 1) else (if x3=14 then (some 2) else (if x3=15 then (some 2) else (if x3=17 then (some 2) else (some (-1)))))
end
def rcWire.f (k:Nat) (a0:Int):Option (Int):=if a0=1 then (rcWire.j0 k a0 (a0 == 1)) else (if a0=2 then (rcWire.j0 k a0 (a0 == 2)) else (if a0=3 then (rcWire.j0 k a0 (a0 == 3)) else (if a0=4 then (rcWire.j0 k a0 (a0 == 4)) else (if a0=5 then (rcWire.j0 k a0 (a0 == 5)) else (if a0=6 then (rcWire.j0 k a0 (a0 == 6)) else (if a0=7 then (rcWire.j0 k a0 (a0 == 7)) else (rcWire.j0 k a0 (a0 == 16))))))))
set_option maxHeartbeats 8000000 in
set_option maxRecDepth 100000 in
theorem rcWire.calls (k:Nat) (a0:Int) (r:Int) (w:World) (h:rcWire.f k a0=some r) :
    Calls Try.prog 99 #[.int .i64 a0] w fun e w'=>e=.returned (.int .i64 r)∧Drawn0 w w':=by
 have H:(if a0=1 then (rcWire.j0 k a0 (a0 == 1)) else (if a0=2 then (rcWire.j0 k a0 (a0 == 2)) else (if a0=3 then (rcWire.j0 k a0 (a0 == 3)) else (if a0=4 then (rcWire.j0 k a0 (a0 == 4)) else (if a0=5 then (rcWire.j0 k a0 (a0 == 5)) else (if a0=6 then (rcWire.j0 k a0 (a0 == 6)) else (if a0=7 then (rcWire.j0 k a0 (a0 == 7)) else (rcWire.j0 k a0 (a0 == 16)))))))))=some r:=h
 clear h
 have aI:=Aside0.mk H
 clear H
 go_enter Try.func99,Try.ntmps99
 go_upto_if 4 with (fail)
 go_cut [4] (fun v4 wc=>∃ (kq:Nat) (ae:Bool),v4=.bool ae∧Aside0 (rcWire.j0 kq a0 ae=some r)∧Aside0 (kq≤k)∧Drawn0 w wc)
 case first =>
  have H:=aI.out
  clear aI
  by_cases c3:a0=1
  ·rw [if_pos c3] at H
   obtain ⟨ai,aJ⟩:=cBt c3
   clear c3
   (rw [ai])
   have H':=Aside0.mk H
   clear H
   go_wp2
   go_meet
   case rel=>exact ⟨_,((a0 == 1)),(by (simp [*];done)),H',⟨by omega⟩,by repeat (exact Drawn0.refl _)⟩
  rw [if_neg c3] at H
  obtain ⟨ai,aJ⟩:=cBf c3
  (rw [ai])
  by_cases c4:a0=2
  ·rw [if_pos c4] at H
   obtain ⟨aK,aL⟩:=cBt c4
   clear c4
   have H':=Aside0.mk H
   clear H
   go_wp2
   go_meet
   case rel=>exact ⟨_,((a0 == 2)),(by (simp [*];done)),H',⟨by omega⟩,by repeat (exact Drawn0.refl _)⟩
  rw [if_neg c4] at H
  obtain ⟨aK,aL⟩:=cBf c4
  by_cases c5:a0=3
  ·rw [if_pos c5] at H
   obtain ⟨aM,aN⟩:=cBt c5
   clear c5
   have H':=Aside0.mk H
   clear H
   go_wp2
   go_meet
   case rel=>exact ⟨_,((a0 == 3)),(by (simp [*];done)),H',⟨by omega⟩,by repeat (exact Drawn0.refl _)⟩
  rw [if_neg c5] at H
  obtain ⟨aM,aN⟩:=cBf c5
  by_cases c6:a0=4
  ·rw [if_pos c6] at H
   obtain ⟨aO,aP⟩:=cBt c6
   clear c6
   have H':=Aside0.mk H
   clear H
   go_wp2
   go_meet
   case rel=>exact ⟨_,((a0 == 4)),(by (simp [*];done)),H',⟨by omega⟩,by repeat (exact Drawn0.refl _)⟩
  rw [if_neg c6] at H
  obtain ⟨aO,aP⟩:=cBf c6
  by_cases c7:a0=5
  ·rw [if_pos c7] at H
   obtain ⟨aQ,aR⟩:=cBt c7
   clear c7
   have H':=Aside0.mk H
   clear H
   go_wp2
   go_meet
   case rel=>exact ⟨_,((a0 == 5)),(by (simp [*];done)),H',⟨by omega⟩,by repeat (exact Drawn0.refl _)⟩
  rw [if_neg c7] at H
  obtain ⟨aQ,aR⟩:=cBf c7
  by_cases c8:a0=6
  ·rw [if_pos c8] at H
   obtain ⟨aS,aT⟩:=cBt c8
   clear c8
   have H':=Aside0.mk H
   clear H
   go_wp2
   go_meet
   case rel=>exact ⟨_,((a0 == 6)),(by (simp [*];done)),H',⟨by omega⟩,by repeat (exact Drawn0.refl _)⟩
  rw [if_neg c8] at H
  obtain ⟨aS,aT⟩:=cBf c8
  by_cases c9:a0=7
  ·rw [if_pos c9] at H
   obtain ⟨aU,aV⟩:=cBt c9
   clear c9
   have H':=Aside0.mk H
   clear H
   go_wp2
   go_meet
   case rel=>exact ⟨_,((a0 == 7)),(by (simp [*];done)),H',⟨by omega⟩,by repeat (exact Drawn0.refl _)⟩
  rw [if_neg c9] at H
  obtain ⟨aU,aV⟩:=cBf c9
  have H':=Aside0.mk H
  clear H
  go_wp2
  go_meet
  case rel=>exact ⟨_,((a0 == 16)),rfl,H',⟨by omega⟩,by repeat (exact Drawn0.refl _)⟩
 clear aI
 obtain ⟨kq,ae,rfl,HA,aj,⟨be,rfl⟩⟩:=hcut
 obtain _ | aY:=kq
 ·exact absurd HA.out (by simp [rcWire.j0])
 have H:=HA.out
 clear HA
 simp only [rcWire.j0] at H
 by_cases aF:ae=true
 ·subst aF
  replace H:=iP H
  obtain rfl:=Option.some.inj H
  go_wp2
  go_ret
  exact ⟨by (rfl),by repeat (first | exact Drawn0.refl _ | apply Drawn0.step)⟩
 replace aF:=Bool.eq_false_iff.mpr aF
 subst aF
 replace H:=iF H
 have af:=Aside0.mk H
 clear H
 go_upto_if 13 with (fail)
 go_cut [13] (fun bc wc=>∃ (kq:Nat) (aa:Bool),bc=.bool aa∧Aside0 (rcWire.j1 kq a0 aa=some r)∧Aside0 (kq≤aY)∧Drawn0 w wc)
 case first =>
  have H:=af.out
  clear af
  by_cases ak:a0=8
  ·rw [if_pos ak] at H
   obtain ⟨ac,al⟩:=cBt ak
   clear ak
   (rw [ac])
   have H':=Aside0.mk H
   clear H
   go_wp2
   go_meet
   case rel=>exact ⟨_,((a0 == 8)),(by (simp [*];done)),H',⟨by have:=aj.out;(omega)⟩,by repeat (first | exact Drawn0.refl _ | apply Drawn0.step)⟩
  rw [if_neg ak] at H
  obtain ⟨ac,al⟩:=cBf ak
  (rw [ac])
  by_cases am:a0=10
  ·rw [if_pos am] at H
   obtain ⟨an,ao⟩:=cBt am
   clear am
   have H':=Aside0.mk H
   clear H
   go_wp2
   go_meet
   case rel=>exact ⟨_,((a0 == 10)),(by (simp [*];done)),H',⟨by have:=aj.out;(omega)⟩,by repeat (first | exact Drawn0.refl _ | apply Drawn0.step)⟩
  rw [if_neg am] at H
  obtain ⟨an,ao⟩:=cBf am
  have H':=Aside0.mk H
  clear H
  go_wp2
  go_meet
  case rel=>exact ⟨_,((a0 == 12)),rfl,H',⟨by have:=aj.out;(omega)⟩,by repeat (first | exact Drawn0.refl _ | apply Drawn0.step)⟩
 clear af
 obtain ⟨kq,aa,rfl,HA,ah,⟨ba,rfl⟩⟩:=hcut
 obtain _ | aW:=kq
 ·exact absurd HA.out (by simp [rcWire.j1])
 have H:=HA.out
 clear HA
 simp only [rcWire.j1] at H
 by_cases aG:aa=true
 ·subst aG
  replace H:=iP H
  obtain rfl:=Option.some.inj H
  go_wp2
  go_ret
  exact ⟨by (rfl),by repeat (first | exact Drawn0.refl _ | apply Drawn0.step)⟩
 replace aG:=Bool.eq_false_iff.mpr aG
 subst aG
 replace H:=iF H
 have ag:=Aside0.mk H
 clear H
 go_upto_if 17 with (fail)
 go_cut [17] (fun bd wc=>∃ (kq:Nat) (ab:Bool),bd=.bool ab∧Aside0 (rcWire.j2 kq a0 ab=some r)∧Aside0 (kq≤aW)∧Drawn0 w wc)
 case first =>
  have H:=ag.out
  clear ag
  by_cases ap:a0=9
  ·rw [if_pos ap] at H
   obtain ⟨ad,aq⟩:=cBt ap
   clear ap
   (rw [ad])
   have H':=Aside0.mk H
   clear H
   go_wp2
   go_meet
   case rel=>exact ⟨_,((a0 == 9)),(by (simp [*];done)),H',⟨by have:=aj.out;have:=ah.out;(omega)⟩,by repeat (first | exact Drawn0.refl _ | apply Drawn0.step)⟩
  rw [if_neg ap] at H
  obtain ⟨ad,aq⟩:=cBf ap
  (rw [ad])
  by_cases ar:a0=11
  ·rw [if_pos ar] at H
   obtain ⟨au,av⟩:=cBt ar
   clear ar
   have H':=Aside0.mk H
   clear H
   go_wp2
   go_meet
   case rel=>exact ⟨_,((a0 == 11)),(by (simp [*];done)),H',⟨by have:=aj.out;have:=ah.out;(omega)⟩,by repeat (first | exact Drawn0.refl _ | apply Drawn0.step)⟩
  rw [if_neg ar] at H
  obtain ⟨au,av⟩:=cBf ar
  have H':=Aside0.mk H
  clear H
  go_wp2
  go_meet
  case rel=>exact ⟨_,((a0 == 13)),rfl,H',⟨by have:=aj.out;have:=ah.out;(omega)⟩,by repeat (first | exact Drawn0.refl _ | apply Drawn0.step)⟩
 clear ag
 obtain ⟨kq,ab,rfl,HA,aX,⟨bb,rfl⟩⟩:=hcut
 obtain _ | aZ:=kq
 ·exact absurd HA.out (by simp [rcWire.j2])
 have H:=HA.out
 clear HA
 simp only [rcWire.j2] at H
 by_cases aH:ab=true
 ·subst aH
  replace H:=iP H
  obtain rfl:=Option.some.inj H
  go_wp2
  go_ret
  exact ⟨by (rfl),by repeat (first | exact Drawn0.refl _ | apply Drawn0.step)⟩
 replace aH:=Bool.eq_false_iff.mpr aH
 subst aH
 replace H:=iF H
 by_cases aw:a0=14
 ·rw [if_pos aw] at H
  obtain ⟨ax,ay⟩:=cBt aw
  clear aw
  obtain rfl:=Option.some.inj H
  go_wp2
  go_ret
  exact ⟨by (rfl),by repeat (first | exact Drawn0.refl _ | apply Drawn0.step)⟩
 rw [if_neg aw] at H
 obtain ⟨ax,ay⟩:=cBf aw
 by_cases az:a0=15
 ·rw [if_pos az] at H
  obtain ⟨aA,aB⟩:=cBt az
  clear az
  obtain rfl:=Option.some.inj H
  go_wp2
  go_ret
  exact ⟨by (rfl),by repeat (first | exact Drawn0.refl _ | apply Drawn0.step)⟩
 rw [if_neg az] at H
 obtain ⟨aA,aB⟩:=cBf az
 by_cases aC:a0=17
 ·rw [if_pos aC] at H
  obtain ⟨aD,aE⟩:=cBt aC
  clear aC
  obtain rfl:=Option.some.inj H
  go_wp2
  go_ret
  exact ⟨by (rfl),by repeat (first | exact Drawn0.refl _ | apply Drawn0.step)⟩
 rw [if_neg aC] at H
 obtain ⟨aD,aE⟩:=cBf aC
 obtain rfl:=Option.some.inj H
 go_wp2
 go_ret
 exact ⟨by (rfl),by repeat (first | exact Drawn0.refl _ | apply Drawn0.step)⟩
def rcNumeric.f (k:Nat) (a0:Int):Option (Bool):=(rcWire.f k a0).bind fun t233=>(if t233 ≥ 0 then ((rcWire.f k a0).bind fun t234=>(some (t234 != 2))) else (some false))
set_option maxHeartbeats 8000000 in
set_option maxRecDepth 100000 in
theorem rcNumeric.calls (k:Nat) (a0:Int) (r:Bool) (w:World) (h:rcNumeric.f k a0=some r) :
  Calls Try.prog 75 #[.int .i64 a0] w fun e w'=>e=.returned (.bool r)∧Drawn0 w w':=by
 have H:((rcWire.f k a0).bind fun t233=>(if t233 ≥ 0 then ((rcWire.f k a0).bind fun t234=>(some (t234 != 2))) else (some false)))=some r:=h
 clear h
 replace H:=Option.bind_eq_some_iff.mp H
 obtain ⟨t233,A20,H⟩:=H
 replace H:(if t233 ≥ 0 then ((rcWire.f k a0).bind fun t234=>(some (t234 != 2))) else (some false))=some r:=H
 have A2:=Aside0.mk A20
 clear A20
 by_cases c3:t233 ≥ 0
 ·rw [if_pos c3] at H
  have c3b0:decide (0≤t233)=true:=decide_eq_true c3
  clear c3
  replace H:=Option.bind_eq_some_iff.mp H
  obtain ⟨t234,A40,H⟩:=H
  replace H:(some (t234 != 2))=some r:=H
  have A4:=Aside0.mk A40
  clear A40
  obtain rfl:=Option.some.inj H
  go_enter Try.func75,Try.ntmps75
  go_wp2_with (first | ((with_reducible refine gate_callee (f:=99) rfl ?_);refine goesL_ (some 4) rfl rfl Try.func99 (by kernel_rfl) rfl #[.int .i64 a0] rfl (by (try simp only [List.map_toArray,List.map_cons,List.map_nil]);first | done | rfl | (simp only [List.length_drop,List.length_take];rfl)) ?_;(with_reducible refine (rcWire.calls k a0 t233 _ A2.out).mono ?_);rintro e w' ⟨rfl,⟨nd,rfl⟩⟩;refine ⟨_,rfl,?_⟩) | (go_at_call 99;(with_reducible refine (rcWire.calls k a0 t234 _ A4.out).mono ?_);rintro e w' ⟨rfl,⟨nd,rfl⟩⟩))
  go_ret
  exact ⟨by first | rfl | (simp;done) | (simp [*];done),by repeat (first | exact Drawn0.refl _ | apply Drawn0.step)⟩
 ·rw [if_neg c3] at H
  have c3b0:decide (0≤t233)=false:=decide_eq_false c3
  clear c3
  obtain rfl:=Option.some.inj H
  go_enter Try.func75,Try.ntmps75
  go_wp2_with (first | ((with_reducible refine gate_callee (f:=99) rfl ?_);refine goesL_ (some 4) rfl rfl Try.func99 (by kernel_rfl) rfl #[.int .i64 a0] rfl (by (try simp only [List.map_toArray,List.map_cons,List.map_nil]);first | done | rfl | (simp only [List.length_drop,List.length_take];rfl)) ?_;(with_reducible refine (rcWire.calls k a0 t233 _ A2.out).mono ?_);rintro e w' ⟨rfl,⟨nd,rfl⟩⟩;refine ⟨_,rfl,?_⟩))
  go_ret
  exact ⟨by first | rfl | (simp;done) | (simp [*];done),by repeat (first | exact Drawn0.refl _ | apply Drawn0.step)⟩
def rcIsKey.f (a0:Int):Option (Bool):=if a0 ≥ 1 then (if a0≤11 then (some true) else (some (a0 == 14))) else (some (a0 == 14))
set_option maxHeartbeats 8000000 in
set_option maxRecDepth 100000 in
theorem rcIsKey.calls (a0:Int) (r:Bool) (w:World) (h:rcIsKey.f a0=some r) :
  Calls Try.prog 76 #[.int .i64 a0] w fun e w'=>e=.returned (.bool r)∧Drawn0 w w':=by
 have H:(if a0 ≥ 1 then (if a0≤11 then (some true) else (some (a0 == 14))) else (some (a0 == 14)))=some r:=h
 clear h
 by_cases c2:a0 ≥ 1
 ·rw [if_pos c2] at H
  have c2b0:decide (1≤a0)=true:=decide_eq_true c2
  clear c2
  by_cases c3:a0≤11
  ·rw [if_pos c3] at H
   have c3b0:decide (a0≤11)=true:=decide_eq_true c3
   clear c3
   obtain rfl:=Option.some.inj H
   go_enter Try.func76,Try.ntmps76
   go_wp2
   go_ret
   exact ⟨by first | rfl | (simp;done) | (simp [*];done),by repeat (first | exact Drawn0.refl _ | apply Drawn0.step)⟩
  ·rw [if_neg c3] at H
   have c3b0:decide (a0≤11)=false:=decide_eq_false c3
   clear c3
   obtain rfl:=Option.some.inj H
   go_enter Try.func76,Try.ntmps76
   go_wp2
   go_ret
   exact ⟨by first | rfl | (simp;done) | (simp [*];done),by repeat (first | exact Drawn0.refl _ | apply Drawn0.step)⟩
 ·rw [if_neg c2] at H
  have c2b0:decide (1≤a0)=false:=decide_eq_false c2
  clear c2
  obtain rfl:=Option.some.inj H
  go_enter Try.func76,Try.ntmps76
  go_wp2
  go_ret
  exact ⟨by first | rfl | (simp;done) | (simp [*];done),by repeat (first | exact Drawn0.refl _ | apply Drawn0.step)⟩
def rgisKind.f (a0:Int):Option (Bool):=if a0 ≥ 1 then (some (decide (a0≤17))) else (some false)
set_option maxHeartbeats 8000000 in
set_option maxRecDepth 100000 in
theorem rgisKind.calls (a0:Int) (r:Bool) (w:World) (h:rgisKind.f a0=some r) :
  Calls Try.prog 77 #[.int .i64 a0] w fun e w'=>e=.returned (.bool r)∧Drawn0 w w':=by
 have H:(if a0 ≥ 1 then (some (decide (a0≤17))) else (some false))=some r:=h
 clear h
 by_cases c2:a0 ≥ 1
 ·rw [if_pos c2] at H
  have c2b0:decide (1≤a0)=true:=decide_eq_true c2
  clear c2
  obtain rfl:=Option.some.inj H
  go_enter Try.func77,Try.ntmps77
  go_wp2
  go_ret
  exact ⟨by first | rfl | (simp;done) | (simp [*];done),by repeat (first | exact Drawn0.refl _ | apply Drawn0.step)⟩
 ·rw [if_neg c2] at H
  have c2b0:decide (1≤a0)=false:=decide_eq_false c2
  clear c2
  obtain rfl:=Option.some.inj H
  go_enter Try.func77,Try.ntmps77
  go_wp2
  go_ret
  exact ⟨by first | rfl | (simp;done) | (simp [*];done),by repeat (first | exact Drawn0.refl _ | apply Drawn0.step)⟩
def rgblock.f (l0_0:List (S30)) (a1:Int) (a2:Int):Option (Bool):=if a1=16 then ((rgisEnum.f l0_0 a2).bind fun t236=>(some t236)) else (if a1=17 then ((rgisMessage.f l0_0 a2).bind fun t237=>(some t237)) else (some (a2 == 0)))
set_option maxHeartbeats 8000000 in
set_option maxRecDepth 100000 in
theorem rgblock.calls (ac:Option Addr) (ad:Nat) (aa:List (S30)) (a1:Int) (a2:Int) (r:Bool) (w:World) (ak:Kd.C k30 w ac aa.length aa) (aj:aa.length≤ad) (h:rgblock.f aa a1 a2=some r) :
    Calls Try.prog 78 #[.agg #[.slice ac aa.length ad],.int .i64 a1,.int .i64 a2] w fun e w'=>e=.returned (.bool r)∧Below w.heap.size w w':=by
 have aC:=Try.underlying24
 have ah:=Aside0.mk ak
 have ag:=Aside0.mk aj
 clear ak aj
 have HB:=Aside0.mk (Below.refl w.heap.size w)
 have H:(if a1=16 then ((rgisEnum.f aa a2).bind fun an=>(some an)) else (if a1=17 then ((rgisMessage.f aa a2).bind fun ao=>(some ao)) else (some (a2 == 0))))=some r:=h
 clear h
 by_cases c4:a1=16
 ·rw [if_pos c4] at H
  obtain ⟨au,av⟩:=cBt c4
  clear c4
  replace H:=Option.bind_eq_some_iff.mp H
  obtain ⟨an,aA,H⟩:=H
  try dsimp only at H
  have A5:=Aside0.mk aA
  clear aA
  obtain rfl:=Option.some.inj H
  go_enter Try.func78,Try.ntmps78
  go_wp2_with (first | ((with_reducible refine gate_dst (N:=3) rfl ?_);refine box_event ?hg (N:=3) ?hd (cs:=#[.slice ac aa.length ad]) (t:=24) ?hr ?_;(case hd=>rfl);(case hg=>rfl);(case hr=>(go_simp;done));intro ai hg w6 hbox hb;have ab:=Aside0.mk hbox;have af:=qz HB hg;have ae:=qz HB hg;replace HB:=qs HB hb;clear hb hbox hg;refine qc1 ab fun ay az=>?_)|((with_reducible refine gate_callee (f:=73) rfl ?_);refine goesL_ (some 11) rfl rfl Try.func73 (by kernel_rfl) rfl #[.agg #[.slice ac aa.length ad],.int .i64 a2] rfl (by (try simp only [List.map_toArray,List.map_cons,List.map_nil]);(rfl)) ?_;(with_reducible refine (rgisEnum.calls _ _ aa a2 an _ ?al ?am A5.out).mono ?_);(case al=>exact (Kd.C_below ah.out HB.out));(case am=>exact ag.out);rintro e w8 ⟨rfl,hb⟩;refine ⟨_,rfl,?_⟩;replace ab:=qb ab hb;replace HB:=qs HB hb;(try clear hb)))
  go_ret
  exact ⟨by (rfl),HB.out⟩
 rw [if_neg c4] at H
 obtain ⟨au,av⟩:=cBf c4
 by_cases c9:a1=17
 ·rw [if_pos c9] at H
  obtain ⟨aw,ax⟩:=cBt c9
  clear c9
  replace H:=Option.bind_eq_some_iff.mp H
  obtain ⟨ao,ap,H⟩:=H
  try dsimp only at H
  have aB:=Aside0.mk ap
  clear ap
  obtain rfl:=Option.some.inj H
  go_enter Try.func78,Try.ntmps78
  go_wp2_with (first | ((with_reducible refine gate_dst (N:=3) rfl ?_);refine box_event ?hg (N:=3) ?hd (cs:=#[.slice ac aa.length ad]) (t:=24) ?hr ?_;(case hd=>rfl);(case hg=>rfl);(case hr=>(go_simp;done));intro ai hg aD hbox hb;have ab:=Aside0.mk hbox;have af:=qz HB hg;have ae:=qz HB hg;replace HB:=qs HB hb;clear hb hbox hg;refine qc1 ab fun aq ar=>?_)|((with_reducible refine gate_callee (f:=30) rfl ?_);refine goesL_ (some 16) rfl rfl Try.func30 (by kernel_rfl) rfl #[.agg #[.slice ac aa.length ad],.int .i64 a2] rfl (by (try simp only [List.map_toArray,List.map_cons,List.map_nil]);(rfl)) ?_;(with_reducible refine (rgisMessage.calls _ _ aa a2 ao _ ?al ?am aB.out).mono ?_);(case al=>exact (Kd.C_below ah.out HB.out));(case am=>exact ag.out);rintro e aE ⟨rfl,hb⟩;refine ⟨_,rfl,?_⟩;replace ab:=qb ab hb;replace HB:=qs HB hb;(try clear hb)))
  go_ret
  exact ⟨by (rfl),HB.out⟩
 rw [if_neg c9] at H
 obtain ⟨aw,ax⟩:=cBf c9
 obtain rfl:=Option.some.inj H
 go_enter Try.func78,Try.ntmps78
 go_wp2_with (((with_reducible refine gate_dst (N:=3) rfl ?_);refine box_event ?hg (N:=3) ?hd (cs:=#[.slice ac aa.length ad]) (t:=24) ?hr ?_;(case hd=>rfl);(case hg=>rfl);(case hr=>(go_simp;done));intro ai hg aF hbox hb;have ab:=Aside0.mk hbox;have af:=qz HB hg;have ae:=qz HB hg;replace HB:=qs HB hb;clear hb hbox hg))
 go_ret
 exact ⟨by (rfl),HB.out⟩
def rgrising.l0:Nat→List (S37)→Int→Option (Bool)
  | 0,_,_=>none
  | k+1,x0,x3=>if x3 < (x0.length:Int) then (if 0≤(wrap64 (x3 - 1)) then (if (wrap64 (x3 - 1)) < (x0.length:Int) then (if 0≤x3 then (if ((rdR x0 (wrap64 (x3 - 1))).f0) ≥ ((rdR x0 x3).f0) then (some false) else (rgrising.l0 k x0 (wrap64 (x3+1)))) else (none)) else (none)) else (none)) else (some true)
def rgrising.f (k:Nat) (l0:List (S37)):Option (Bool):=rgrising.l0 k l0 1
theorem rgrising.mono_l:∀ k,(∀ y0 y1,LeO (rgrising.l0 k y0 y1) (rgrising.l0 (k+1) y0 y1))
  | 0=>fun _ _ r h=>by simp [rgrising.l0] at h
  | k+1=>by
    have ih0:=rgrising.mono_l k
    · intro y0 y1
      unfold rgrising.l0
      repeat' first | (with_reducible exact ih0 _ _) | (with_reducible exact LeO.refl _) | (with_reducible refine LeO.ite ?_ ?_)
theorem rgrising.mono:∀ a0 k,LeO (rgrising.f k a0) (rgrising.f (k+1) a0):=by
  intro a0 k
  have ih0:=rgrising.mono_l k
  unfold rgrising.f
  repeat' (with_reducible exact ih0 _ _)
set_option maxHeartbeats 8000000 in
set_option maxRecDepth 100000 in
theorem rgrising.calls (k:Nat) (A0:Option Addr) (c0:Nat) (l0:List (S37)) (r:Bool) (w:World) (aw:Kd.C k37 w A0 l0.length l0) (aA:l0.length≤c0) (h:rgrising.f k l0=some r) :
    Calls Try.prog 29 #[.slice A0 l0.length c0] w fun e w'=>e=.returned (.bool r)∧Drawn0 w w':=by
 have ap:=Aside0.mk aw
 clear aw aA
 have H:(rgrising.l0 k l0 1)=some r:=h
 clear h
 have H':=Aside0.mk H
 clear H
 go_enter Try.func29,Try.ntmps29
 go_wp2
 repeat (go_quiet (fail);try go_wp2)
 go_loopg [3] k (fun kq v3 w'=>∃ (aa:Int),v3=.int .i64 aa∧Aside0 (rgrising.l0 kq l0 aa=some r)∧Aside0 (kq≤k)∧Drawn0 w w')
 case atStart=>exact ⟨(1),rfl,H',⟨Nat.le_refl _⟩,by repeat (exact Drawn0.refl _)⟩
 clear H'
 obtain ⟨aa,rfl,HA,au,⟨m1,rfl⟩⟩:=hrel
 obtain _ | k1:=gk
 ·exact absurd HA.out (by simp [rgrising.l0])
 have H:=HA.out
 clear HA
 simp only [rgrising.l0] at H
 by_cases c2:aa < (l0.length:Int)
 ·rw [if_pos c2] at H
  have aq:=decide_eq_true c2
  clear c2
  obtain ⟨ah,ao⟩:∃ j_:Int,(wrap64 (aa - 1))=j_:=⟨_,rfl⟩
  rw [ao] at H
  have av:(IntKind.i64.wrap (aa - 1))=ah:=(i64_w _).trans ao
  replace H:=iNd H
  obtain ⟨ax,H⟩:=H
  replace H:=iNd H
  obtain ⟨ay,H⟩:=H
  replace H:=iNd H
  obtain ⟨az,H⟩:=H
  by_cases c7:((rdR l0 (ah)).f0) ≥ ((rdR l0 aa).f0)
  ·rw [if_pos c7] at H
   have ar:decide (((rdR l0 aa).f0)≤((rdR l0 (ah)).f0))=true:=decide_eq_true c7
   clear c7
   obtain rfl:=Option.some.inj H
   have ab:0≤((ah):Int):=od
   have ad:(ah) < (l0.length:Int):=od
   obtain ⟨af,am,ai,aj⟩:=at_T37 ap.out (ah) ab ad
   cases am
   replace ab:=eq_true ab
   replace ad:=eq_true ad
   have ac:0≤(aa:Int):=od
   have ae:aa < (l0.length:Int):=od
   obtain ⟨ag,an,ak,al⟩:=at_T37 ap.out aa ac ae
   obtain rfl:af=ag:=(by injection an)
   replace ac:=eq_true ac
   replace ae:=eq_true ae
   go_wp2
   repeat (go_quiet (fail);try go_wp2)
   go_ret
   exact ⟨by (rfl),by repeat (first | exact Drawn0.refl _ | apply Drawn0.step)⟩
  rw [if_neg c7] at H
  have ar:decide (((rdR l0 aa).f0)≤((rdR l0 (ah)).f0))=false:=decide_eq_false c7
  clear c7
  have H':=Aside0.mk H
  clear H
  have ab:0≤((ah):Int):=od
  have ad:(ah) < (l0.length:Int):=od
  obtain ⟨af,am,ai,aj⟩:=at_T37 ap.out (ah) ab ad
  cases am
  replace ab:=eq_true ab
  replace ad:=eq_true ad
  have ac:0≤(aa:Int):=od
  have ae:aa < (l0.length:Int):=od
  obtain ⟨ag,an,ak,al⟩:=at_T37 ap.out aa ac ae
  obtain rfl:af=ag:=(by injection an)
  replace ac:=eq_true ac
  replace ae:=eq_true ae
  go_wp2
  repeat (go_quiet (fail);try go_wp2)
  go_roundg k1
  case measure=>have:=au.out;omega
  case rel=>exact ⟨(wrap64 (aa+1)),rfl,H',⟨by have:=au.out;omega⟩,by repeat (first | exact Drawn0.refl _ | apply Drawn0.step)⟩
 rw [if_neg c2] at H
 have aq:=decide_eq_false c2
 clear c2
 obtain rfl:=Option.some.inj H
 go_wp2
 repeat (go_quiet (fail);try go_wp2)
 go_ret
 exact ⟨by (rfl),by repeat (first | exact Drawn0.refl _ | apply Drawn0.step)⟩
def rfcopied.f (l0_0:List (S35)) (l0_1:List (S35)) (l0_2:List (S37)):Option ((List (S35)) × (List (S35)) × (List (S37))):=if ([]:List (S35)).length+l0_0.length < 3518437208883 then (if ([]:List (S35)).length+l0_1.length < 3518437208883 then (if ([]:List (S37)).length+l0_2.length < 8796093022208 then (some ((([]:List (S35)) ++ l0_0),(([]:List (S35)) ++ l0_1),(([]:List (S37)) ++ l0_2))) else (none)) else (none)) else (none)
set_option maxHeartbeats 8000000 in
set_option maxRecDepth 100000 in
theorem rfcopied.calls (aD:Option Addr) (aH:Nat) (ak:List (S35)) (aE:Option Addr) (aI:Nat) (al:List (S35)) (aG:Option Addr) (aJ:Nat) (am:List (S37)) (r1:List (S35)) (r2:List (S35)) (r3:List (S37)) (w:World) (aT:Kd.C k35 w aD ak.length ak) (bd:ak.length≤aH) (aU:Kd.C k35 w aE al.length al) (be:al.length≤aI) (aV:Kd.C k37 w aG am.length am) (bf:am.length≤aJ) (h:rfcopied.f ak al am=some (r1,r2,r3)) :
    Calls Try.prog 37 #[.agg #[.slice aD ak.length aH,.slice aE al.length aI,.slice aG am.length aJ]] w fun e w'=>∃ cj ck cr:Value,e=.returned (.agg #[cj,ck,cr])∧Kd.R k35 35 w' w.heap.size (fun k_=>some k_≠(ck:Value).ownBlock) cj r1∧Kd.R k35 35 w' w.heap.size (fun k_=>some k_≠(cj:Value).ownBlock) ck r2∧Kd.R k37 37 w' w.heap.size (fun _=>True) cr r3∧Below w.heap.size w w':=by
 have cx:=Try.underlying30
 have aX:=Aside0.mk aT
 clear aT bd
 have aY:=Aside0.mk aU
 clear aU be
 have aZ:=Aside0.mk aV
 clear aV bf
 have HB:=Aside0.mk (Below.refl w.heap.size w)
 have H:(if ([]:List (S35)).length+ak.length < 3518437208883 then (if ([]:List (S35)).length+al.length < 3518437208883 then (if ([]:List (S37)).length+am.length < 8796093022208 then (some ((([]:List (S35)) ++ ak),(([]:List (S35)) ++ al),(([]:List (S37)) ++ am))) else (none)) else (none)) else (none))=some (r1,r2,r3):=h
 clear h
 replace H:=iN H
 obtain ⟨c2,H⟩:=H
 have cd:=Aside0.mk c2
 clear c2
 obtain ⟨aj,aK⟩:∃ y_:List (S35),y_=(([]:List (S35)) ++ ak):=⟨_,rfl⟩
 rw [← aK] at H
 have ba:=Aside0.mk aK
 clear aK
 replace H:=iN H
 obtain ⟨c3,H⟩:=H
 have ce:=Aside0.mk c3
 clear c3
 obtain ⟨ar,aM⟩:∃ y_:List (S35),y_=(([]:List (S35)) ++ al):=⟨_,rfl⟩
 rw [← aM] at H
 have bb:=Aside0.mk aM
 clear aM
 replace H:=iN H
 obtain ⟨c4,H⟩:=H
 have cf:=Aside0.mk c4
 clear c4
 obtain ⟨aw,aN⟩:∃ y_:List (S37),y_=(([]:List (S37)) ++ am):=⟨_,rfl⟩
 rw [← aN] at H
 have bc:=Aside0.mk aN
 clear aN
 simp only [Option.some.injEq,Prod.mk.injEq] at H
 obtain ⟨rfl,rfl,rfl⟩:=H
 go_enter Try.func37,Try.ntmps37
 go_wp2_with (first | ((with_reducible refine gate_dst (N:=1) rfl ?_);refine box_event ?hg (N:=1) ?hd (cs:=#[.slice aD ak.length aH,.slice aE al.length aI,.slice aG am.length aJ]) (t:=30) ?hr ?_;(case hd=>rfl);(case hg=>rfl);(case hr=>(go_simp;done));intro aQ hg w5 hbox hb;have aa:=Aside0.mk hbox;have cm:=qz HB hg;have cl:=qz HB hg;replace HB:=qs HB hb;clear hb hbox hg)|((with_reducible refine gate_dst (N:=2) rfl ?_);refine box_event ?hg (N:=2) ?hd (cs:=#[.slice none 0 0,.slice none 0 0,.slice none 0 0]) (t:=30) ?hr ?_;(case hd=>rfl);(case hg=>rfl);(case hr=>(go_simp;done));intro ad hg w6 hbox hb;have ac:=Aside0.mk hbox;have cn:=qz HB hg;have aW:=qz HB hg;replace HB:=qs HB hb;have ay:=qn aa hg;have az:=qN aa hg;replace aa:=qb aa hb;clear hb hbox hg)|((with_reducible refine gate_dst (N:=3) rfl ?_);refine box_event ?hg (N:=3) ?hd (cs:=#[.slice none 0 0,.slice none 0 0,.slice none 0 0]) (t:=30) ?hr ?_;(case hd=>rfl);(case hg=>rfl);(case hr=>(go_simp;done));intro af hg w7 hbox hb;have ab:=Aside0.mk hbox;have co:=qz HB hg;have an:=qz HB hg;replace HB:=qs HB hb;have ah:=qn aa hg;have aA:=qN aa hg;replace aa:=qb aa hb;have ae:=qn ac hg;have aC:=qN ac hg;replace ac:=qb ac hb;clear hb hbox hg;have ct:=aA.out;have cv:=ah.out;have cu:=aC.out;have cw:=ae.out;refine qc3 ab fun bg bh bi bF bG bH=>?_;have cp:=ay.out;have cq:=az.out;refine qc3 aa fun bj bk bl bI bJ bK=>?_)|((with_reducible refine gate_builtin (b:=.append) (xs:=#[.tmp 5,.tmp 7]) rfl ?_);at_builtin;refine Kd.R_append_rows k35 (w0:=w) w.heap.size rfl (.tmp 5) (.tmp 7) 27 35 (.agg #[(.int .i64 0),(.int .i64 0),(.int .i64 0),(.int .i64 0),(.int .i64 0)]) 40 rfl Try.underlying27 info35 rfl (by decide) (by omega) (.slice none 0 0) ([]:List (S35)) ak _ _ _ (fun _=>True) (fun _=>False) rfl rfl ?aO ?aR (fun _ _ h=>h) (fun _ h=>h.elim) ?aF ?aB ?aS ?aL ?_;(case aR=>exact (Kd.C_below aX.out HB.out));(case aB=>exact HB.out);(case aF=>exact (fun _ _=>trivial));(case aO=>exact ((Kd.R_nil _ _ _ _ (fun _=>True))));(case aS=>exact (below_size HB.out));(case aL=>have:=cd.out;omega);intro cy cB ho hb hg hat;rw [← ba.out] at ho;replace aa:=qG aa hg;replace ac:=qG ac hg;replace ab:=qG ab hg;replace HB:=Aside0.mk hb;have ao:=Aside0.mk ho;clear ho hb hg hat;obtain ⟨ag,ai,cg⟩:=Kd.R_slice ao.out;subst cg;refine qc3 ab fun bm bn bo bL bM bN=>?_;refine qc3 aa fun bp bq br bO bP bQ=>?_)|((with_reducible refine gate_builtin (b:=.append) (xs:=#[.tmp 11,.tmp 13]) rfl ?_);at_builtin;refine Kd.R_append_rows k35 (w0:=w) w.heap.size rfl (.tmp 11) (.tmp 13) 27 35 (.agg #[(.int .i64 0),(.int .i64 0),(.int .i64 0),(.int .i64 0),(.int .i64 0)]) 40 rfl Try.underlying27 info35 rfl (by decide) (by omega) (.slice none 0 0) ([]:List (S35)) al _ _ _ (fun k_=>some k_≠(.slice ag aj.length ai:Value).ownBlock) (fun _=>False) rfl rfl ?aO ?aR (fun _ _ h=>h) (fun _ h=>h.elim) ?aF ?aB ?aS ?aL ?_;(case aR=>exact Kd.C_below aY.out (by repeat ((with_reducible first | exact HB.out | refine b_st ?_ an.out))));(case aB=>exact (by repeat ((with_reducible first | exact HB.out | refine b_st ?_ an.out))));(case aF=>exact (fun k_ hk=>Kd.fresh' (Kd.R_lt (by exact (Kd.R_mono (Kd.R_far (p:=⟨af,0,none⟩) (Kd.R_types ao.out ab.out (by decide)) (fun _ hk=>hk.2) (.slice ag aj.length ai)) (fun _ h_=>h_.1)))) k_ hk));(case aO=>exact ((Kd.R_nil _ _ _ _ (fun k_=>some k_≠(.slice ag aj.length ai:Value).ownBlock))));(case aS=>exact (below_size (by repeat ((with_reducible first | exact HB.out | refine b_st ?_ an.out)))));(case aL=>have:=ce.out;omega);intro cz cC ho hb hg hat;rw [← bb.out] at ho;replace aa:=Aside0.mk (blk_grown (g:=aQ) (o:=.cells #[.slice aD ak.length aH,.slice aE al.length aI,.slice aG am.length aJ] 30 (0,0)) (by refine blk_far ?_ ah.out _;exact aa.out) hg (by simp [Value.ownBlock]));replace ac:=Aside0.mk (blk_grown (g:=ad) (o:=.cells #[.slice none 0 0,.slice none 0 0,.slice none 0 0] 30 (0,0)) (by refine blk_far ?_ ae.out _;exact ac.out) hg (by simp [Value.ownBlock]));replace ao:=Aside0.mk (Kd.R_after (Kd.R_apart_nil (by exact (Kd.R_mono (Kd.R_far (p:=⟨af,0,none⟩) (Kd.R_types ao.out ab.out (by decide)) (fun _ hk=>hk.2) (.slice ag aj.length ai)) (fun _ h_=>h_.1)))) hg hat);replace ab:=Aside0.mk (blk_grown (g:=af) (o:=.cells #[.slice ag aj.length ai,.slice none 0 0,.slice none 0 0] 30 (0,0)) (by refine blk_put (cs:=#[.slice none 0 0,.slice none 0 0,.slice none 0 0]) ?_ 0 _ rfl;exact ab.out) hg (by simp [Value.ownBlock]));replace HB:=Aside0.mk hb;have ax:=Aside0.mk ho;clear ho hb hg hat;obtain ⟨ap,aq,ch⟩:=Kd.R_slice ax.out;subst ch;refine qc3 ab fun bs bt bu bR bS bT=>?_;refine qc3 aa fun bv bw bx bU bV bW=>?_)|((with_reducible refine gate_builtin (b:=.append) (xs:=#[.tmp 17,.tmp 19]) rfl ?_);at_builtin;refine Kd.R_append_rows k37 (w0:=w) w.heap.size rfl (.tmp 17) (.tmp 19) 28 37 (.agg #[(.int .i64 0),(.int .i64 0)]) 16 rfl Try.underlying28 info37 rfl (by decide) (by omega) (.slice none 0 0) ([]:List (S37)) am _ _ _ (fun _=>True) (fun _=>False) rfl rfl ?aO ?aR (fun _ _ h=>h) (fun _ h=>h.elim) ?aF ?aB ?aS ?aL ?_;(case aR=>exact Kd.C_below aZ.out (by repeat ((with_reducible first | exact HB.out | refine b_st ?_ an.out))));(case aB=>exact (by repeat ((with_reducible first | exact HB.out | refine b_st ?_ an.out))));(case aF=>exact (fun _ _=>trivial));(case aO=>exact ((Kd.R_nil _ _ _ _ (fun _=>True))));(case aS=>exact (below_size (by repeat ((with_reducible first | exact HB.out | refine b_st ?_ an.out)))));(case aL=>have:=cf.out;omega);intro cA cD ho hb hg hat;rw [← bc.out] at ho;replace aa:=Aside0.mk (blk_grown (g:=aQ) (o:=.cells #[.slice aD ak.length aH,.slice aE al.length aI,.slice aG am.length aJ] 30 (0,0)) (by refine blk_far ?_ ah.out _;exact aa.out) hg (by simp [Value.ownBlock]));replace ac:=Aside0.mk (blk_grown (g:=ad) (o:=.cells #[.slice none 0 0,.slice none 0 0,.slice none 0 0] 30 (0,0)) (by refine blk_far ?_ ae.out _;exact ac.out) hg (by simp [Value.ownBlock]));replace ao:=Aside0.mk (Kd.R_grown (by exact (Kd.R_mono (Kd.R_far (p:=⟨af,1,none⟩) (Kd.R_types ao.out ab.out (by decide)) (fun _ hk=>hk.2) (.slice ap ar.length aq)) (fun _ h_=>h_.1))) hg (fun _ _=>by simp [Value.ownBlock]));replace ax:=Aside0.mk (Kd.R_grown (by exact (Kd.R_mono (Kd.R_far (p:=⟨af,1,none⟩) (Kd.R_types ax.out ab.out (by decide)) (fun _ hk=>hk.2) (.slice ap ar.length aq)) (fun _ h_=>h_.1))) hg (fun _ _=>by simp [Value.ownBlock]));replace ab:=Aside0.mk (blk_grown (g:=af) (o:=.cells #[.slice ag aj.length ai,.slice ap ar.length aq,.slice none 0 0] 30 (0,0)) (by refine blk_put (cs:=#[.slice ag aj.length ai,.slice none 0 0,.slice none 0 0]) ?_ 1 _ rfl;exact ab.out) hg (by simp [Value.ownBlock]));replace HB:=Aside0.mk hb;have aP:=Aside0.mk ho;clear ho hb hg hat;obtain ⟨au,av,ci⟩:=Kd.R_slice aP.out;subst ci;refine qc3 ab fun bz bA bB bX bY bZ=>?_;refine qc3 ac fun bC bD bE ca cb cc=>?_))
 refine bodyPost_ret (results_cell_row rfl _ _ ad 30 #[.slice ag aj.length ai,.slice ap ar.length aq,.slice au aw.length av] (0,0) _ rfl (by refine blk_put (cs:=#[.slice ag aj.length ai,.slice ap ar.length aq,.slice none 0 0]) ?_ 2 _ rfl;refine blk_put (cs:=#[.slice ag aj.length ai,.slice none 0 0,.slice none 0 0]) ?_ 1 _ rfl;refine blk_put (cs:=#[.slice none 0 0,.slice none 0 0,.slice none 0 0]) ?_ 0 _ rfl;refine blk_far ?_ ae.out _;exact ac.out) Try.underlying30 rfl (by kernel_rfl)) rfl ?_
 exact ⟨_,_,_,by (rfl),by exact Kd.R_mono (Kd.R_far (p:=⟨ad,2,none⟩) (Kd.R_far (p:=⟨ad,1,none⟩) (Kd.R_far (p:=⟨ad,0,none⟩) (Kd.R_far (p:=⟨af,2,none⟩) (Kd.R_types (Kd.R_types ao.out ab.out (by decide)) ac.out (by decide)) (fun _ hk=>hk.1.2) (.slice au aw.length av)) (fun _ hk=>hk.2) (.slice ag aj.length ai)) (fun _ hk=>hk.2) (.slice ap ar.length aq)) (fun _ hk=>hk.2) (.slice au aw.length av)) (fun _ hk=>hk.1.1.2),by exact Kd.R_mono (Kd.R_far (p:=⟨ad,2,none⟩) (Kd.R_far (p:=⟨ad,1,none⟩) (Kd.R_far (p:=⟨ad,0,none⟩) (Kd.R_far (p:=⟨af,2,none⟩) (Kd.R_types (Kd.R_types ax.out ab.out (by decide)) ac.out (by decide)) (fun _ hk=>hk.1.2) (.slice au aw.length av)) (fun _ hk=>hk.2) (.slice ag aj.length ai)) (fun _ hk=>hk.2) (.slice ap ar.length aq)) (fun _ hk=>hk.2) (.slice au aw.length av)) (fun _ hk=>hk.1.1),by exact Kd.R_mono (Kd.R_far (p:=⟨ad,2,none⟩) (Kd.R_far (p:=⟨ad,1,none⟩) (Kd.R_far (p:=⟨ad,0,none⟩) (Kd.R_far (p:=⟨af,2,none⟩) (Kd.R_types (Kd.R_types aP.out ab.out (by decide)) ac.out (by decide)) (fun _ hk=>hk.1.2) (.slice au aw.length av)) (fun _ hk=>hk.2) (.slice ag aj.length ai)) (fun _ hk=>hk.2) (.slice ap ar.length aq)) (fun _ hk=>hk.2) (.slice au aw.length av)) (fun _ hk=>trivial),by repeat ((with_reducible first | exact HB.out | refine b_st ?_ aW.out | refine b_st ?_ an.out))⟩
def rfisEnum.f (l0_0:List (S35)) (l0_1:List (S35)) (l0_2:List (S37)):Option (Bool):=if (l0_0.length:Int)=0 then (some ((l0_1.length:Int) == 0)) else (some false)
set_option maxHeartbeats 8000000 in
set_option maxRecDepth 100000 in
theorem rfisEnum.calls (ae:Option Addr) (ah:Nat) (aa:List (S35)) (af:Option Addr) (ai:Nat) (ab:List (S35)) (ag:Option Addr) (aj:Nat) (ac:List (S37)) (r:Bool) (w:World) (aq:Kd.C k35 w ae aa.length aa) (an:aa.length≤ah) (ar:Kd.C k35 w af ab.length ab) (ao:ab.length≤ai) (au:Kd.C k37 w ag ac.length ac) (ap:ac.length≤aj) (h:rfisEnum.f aa ab ac=some r) :
    Calls Try.prog 39 #[.agg #[.slice ae aa.length ah,.slice af ab.length ai,.slice ag ac.length aj]] w fun e w'=>e=.returned (.bool r)∧Below w.heap.size w w':=by
 have aK:=Try.underlying30
 clear aq an
 clear ar ao
 clear au ap
 have HB:=Aside0.mk (Below.refl w.heap.size w)
 have H:(if (aa.length:Int)=0 then (some ((ab.length:Int) == 0)) else (some false))=some r:=h
 clear h
 by_cases c2:(aa.length:Int)=0
 ·rw [if_pos c2] at H
  obtain ⟨av,aw⟩:=cBt c2
  clear c2
  obtain rfl:=Option.some.inj H
  go_enter Try.func39,Try.ntmps39
  go_wp2_with (((with_reducible refine gate_dst (N:=1) rfl ?_);(try (refine gate_guard (by rfl) ?_;dsimp only));refine box_event ?hg (N:=1) ?hd (cs:=#[.slice ae aa.length ah,.slice af ab.length ai,.slice ag ac.length aj]) (t:=30) ?hr ?_;(case hd=>rfl);(case hg=>rfl);(case hr=>(go_simp;done));intro am hg w3 hbox hb;have ad:=Aside0.mk hbox;have al:=qz HB hg;have ak:=qz HB hg;replace HB:=qs HB hb;clear hb hbox hg;refine qc3 ad fun ax ay az aD aE aF=>?_))
  go_ret
  exact ⟨by (rfl),HB.out⟩
 rw [if_neg c2] at H
 obtain ⟨av,aw⟩:=cBf c2
 have aJ:¬ (aa=[]):=fun h_=>c2 (by rw [h_];rfl)
 obtain rfl:=Option.some.inj H
 go_enter Try.func39,Try.ntmps39
 go_wp2_with (((with_reducible refine gate_dst (N:=1) rfl ?_);(try (refine gate_guard (by rfl) ?_;dsimp only));refine box_event ?hg (N:=1) ?hd (cs:=#[.slice ae aa.length ah,.slice af ab.length ai,.slice ag ac.length aj]) (t:=30) ?hr ?_;(case hd=>rfl);(case hg=>rfl);(case hr=>(go_simp;done));intro am hg w5 hbox hb;have ad:=Aside0.mk hbox;have al:=qz HB hg;have ak:=qz HB hg;replace HB:=qs HB hb;clear hb hbox hg;refine qc3 ad fun aA aB aC aG aH aI=>?_))
 go_ret
 exact ⟨by (rfl),HB.out⟩
def rffollow.l0:Nat→Int→Bool→List (S35)→List (S35)→List (S37)→Option (Int)
  | 0,_,_,_,_,_=>none
  | k+1,x1,x2,x434000,x434001,x434002=>if 0≤x1 then (if x1 < (x434000.length:Int) then (if ((rdQ x434000 x1).f0)=4 then (if ((rdQ x434000 x1).f1) > 0 then (rffollow.l0 k ((rdQ x434000 x1).f1) x2 x434000 x434001 x434002) else (if x2=true then (some x1) else (rffollow.l0 k ((rdQ x434000 x1).f1) x2 x434000 x434001 x434002))) else (some x1)) else (none)) else (none)
def rffollow.f (k:Nat) (l0_0:List (S35)) (l0_1:List (S35)) (l0_2:List (S37)) (a1:Int) (a2:Bool):Option (Int):=rffollow.l0 k a1 a2 l0_0 l0_1 l0_2
theorem rffollow.mono_l:∀ k,(∀ y0 y1 y2 y3 y4,LeO (rffollow.l0 k y0 y1 y2 y3 y4) (rffollow.l0 (k+1) y0 y1 y2 y3 y4))
  | 0=>fun _ _ _ _ _ r h=>by simp [rffollow.l0] at h
  | k+1=>by
    have ih0:=rffollow.mono_l k
    · intro y0 y1 y2 y3 y4
      unfold rffollow.l0
      repeat' first | (with_reducible exact ih0 _ _ _ _ _) | (with_reducible exact LeO.refl _) | (with_reducible refine LeO.ite ?_ ?_)
theorem rffollow.mono:∀ a0 a1 a2 a3 a4 k,LeO (rffollow.f k a0 a1 a2 a3 a4) (rffollow.f (k+1) a0 a1 a2 a3 a4):=by
  intro a0 a1 a2 a3 a4 k
  have ih0:=rffollow.mono_l k
  unfold rffollow.f
  repeat' (with_reducible exact ih0 _ _ _ _ _)
set_option maxHeartbeats 8000000 in
set_option maxRecDepth 100000 in
theorem rffollow.calls (k:Nat) (aw:Option Addr) (az:Nat) (ab:List (S35)) (ax:Option Addr) (aA:Nat) (ak:List (S35)) (ay:Option Addr) (aB:Nat) (al:List (S37)) (a1:Int) (a2:Bool) (r:Int) (w:World) (aC:Kd.C k35 w aw ab.length ab) (aI:ab.length≤az) (aL:Kd.C k35 w ax ak.length ak) (aJ:ak.length≤aA) (aM:Kd.C k37 w ay al.length al) (aK:al.length≤aB) (h:rffollow.f k ab ak al a1 a2=some r) :
    Calls Try.prog 44 #[.agg #[.slice aw ab.length az,.slice ax ak.length aA,.slice ay al.length aB],.int .i64 a1,.bool a2] w fun e w'=>e=.returned (.int .i64 r)∧Below w.heap.size w w':=by
 have bJ:=Try.underlying30
 have ac:=Aside0.mk aC
 clear aC aI
 clear aL aJ
 clear aM aK
 have HB:=Aside0.mk (Below.refl w.heap.size w)
 have H:(rffollow.l0 k a1 a2 ab ak al)=some r:=h
 clear h
 have H':=Aside0.mk H
 clear H
 go_enter Try.func44,Try.ntmps44
 go_wp2_with (((with_reducible refine gate_dst (N:=3) rfl ?_);refine box_event ?hg (N:=3) ?hd (cs:=#[.slice aw ab.length az,.slice ax ak.length aA,.slice ay al.length aB]) (t:=30) ?hr ?_;(case hd=>rfl);(case hg=>rfl);(case hr=>(go_simp;done));intro aH hg w4 hbox hb;have ad:=Aside0.mk hbox;have bG:=qz HB hg;have bF:=qz HB hg;replace HB:=qs HB hb;clear hb hbox hg))
 go_loopg [1] k (fun kq v1 w'=>∃ (aa:Int),v1=.int .i64 aa∧Aside0 (rffollow.l0 kq aa a2 ab ak al=some r)∧Aside0 (kq≤k)∧Aside0 (w'.heap[aH]?=some (.cells #[(.slice aw ab.length az),(.slice ax ak.length aA),(.slice ay al.length aB)] 30 (0,0)))∧Aside0 (Below w.heap.size w w'))
 case atStart=>exact ⟨(a1),rfl,H',⟨Nat.le_refl _⟩,ad,HB⟩
 clear H'
 obtain ⟨aa,rfl,HA,aP,ad,HB⟩:=hrel
 obtain _ | k1:=gk
 ·exact absurd HA.out (by simp [rffollow.l0])
 have H:=HA.out
 clear HA
 simp only [rffollow.l0] at H
 replace H:=iNd H
 obtain ⟨bH,H⟩:=H
 replace H:=iNd H
 obtain ⟨bI,H⟩:=H
 by_cases c7:((rdQ ab aa).f0)=4
 ·rw [if_pos c7] at H
  obtain ⟨bt,bu⟩:=cBt c7
  clear c7
  by_cases c8:((rdQ ab aa).f1) > 0
  ·rw [if_pos c8] at H
   have bv:decide (0 < ((rdQ ab aa).f1))=true:=decide_eq_true c8
   clear c8
   have H':=Aside0.mk H
   clear H
   refine qc3 ad fun bz bA bB bC bD bE=>?_
   obtain ⟨ae,an,aD,aE,af,ag,ah,ai,aj⟩:=rd35 ac HB aa
   cases an
   obtain ⟨am,av,aN,aO,ao,ap,aq,ar,au⟩:=rd35 ac HB aa
   obtain rfl:ae=am:=(by injection av)
   obtain ⟨aF,bw,bK,bM,bj,bk,bl,bm,bn⟩:=rd35 ac HB aa
   obtain rfl:ae=aF:=(by injection bw)
   go_wp2
   go_roundg k1
   case measure=>have:=aP.out;omega
   case rel=>exact ⟨((rdQ ab aa).f1),rfl,H',⟨by have:=aP.out;omega⟩,ad,HB⟩
  rw [if_neg c8] at H
  have bv:decide (0 < ((rdQ ab aa).f1))=false:=decide_eq_false c8
  clear c8
  by_cases aQ:a2=true
  ·subst aQ
   replace H:=iP H
   obtain rfl:=Option.some.inj H
   refine qc3 ad fun aR aS aT ba bb bc=>?_
   obtain ⟨ae,an,aD,aE,af,ag,ah,ai,aj⟩:=rd35 ac HB aa
   cases an
   obtain ⟨am,av,aN,aO,ao,ap,aq,ar,au⟩:=rd35 ac HB aa
   obtain rfl:ae=am:=(by injection av)
   go_wp2
   go_ret
   exact ⟨by (rfl),HB.out⟩
  replace aQ:=Bool.eq_false_iff.mpr aQ
  subst aQ
  replace H:=iF H
  have H':=Aside0.mk H
  clear H
  refine qc3 ad fun aU aV aW bd be bf=>?_
  obtain ⟨ae,an,aD,aE,af,ag,ah,ai,aj⟩:=rd35 ac HB aa
  cases an
  obtain ⟨am,av,aN,aO,ao,ap,aq,ar,au⟩:=rd35 ac HB aa
  obtain rfl:ae=am:=(by injection av)
  obtain ⟨aG,bx,bL,bN,bo,bp,bq,br,bs⟩:=rd35 ac HB aa
  obtain rfl:ae=aG:=(by injection bx)
  go_wp2
  go_roundg k1
  case measure=>have:=aP.out;omega
  case rel=>exact ⟨((rdQ ab aa).f1),rfl,H',⟨by have:=aP.out;omega⟩,ad,HB⟩
 rw [if_neg c7] at H
 obtain ⟨bt,bu⟩:=cBf c7
 obtain rfl:=Option.some.inj H
 refine qc3 ad fun aX aY aZ bg bh bi=>?_
 obtain ⟨ae,an,aD,aE,af,ag,ah,ai,aj⟩:=rd35 ac HB aa
 cases an
 go_wp2
 go_ret
 exact ⟨by (rfl),HB.out⟩
mutual
def rfThread.l0:Nat→Int→List (S35)→List (S35)→List (S37)→List (S35)→List (S35)→List (S37)→Option ((List (S35)) × (List (S35)) × (List (S37)))
  | 0,_,_,_,_,_,_,_=>none
  | k+1,x4,x439000,x439001,x439002,x450000,x450001,x450002=>if x4 < (x439000.length:Int) then (if 0≤x4 then (if ((rdQ x439000 x4).f0)=2 then ((rffollow.f k x439000 x439001 x439002 ((rdQ x439000 x4).f2) true).bind fun t453=>(if x4 < (x450000.length:Int) then (rfThread.l0 k (wrap64 (x4+1)) x439000 x439001 x439002 (x450000.set (x4:Int).toNat (⟨(rdQ x450000 x4).f0,(rdQ x450000 x4).f1,t453,(rdQ x450000 x4).f3,(rdQ x450000 x4).f4⟩:S35)) x450001 x450002) else (none))) else (if ((rdQ x439000 x4).f0)=3 then ((rffollow.f k x439000 x439001 x439002 ((rdQ x439000 x4).f1) true).bind fun t456=>(if x4 < (x450000.length:Int) then (rfThread.l0 k (wrap64 (x4+1)) x439000 x439001 x439002 (x450000.set (x4:Int).toNat (⟨(rdQ x450000 x4).f0,t456,(rdQ x450000 x4).f2,(rdQ x450000 x4).f3,(rdQ x450000 x4).f4⟩:S35)) x450001 x450002) else (none))) else (if ((rdQ x439000 x4).f0)=4 then ((rffollow.f k x439000 x439001 x439002 ((rdQ x439000 x4).f1) false).bind fun t459=>(if x4 < (x450000.length:Int) then (rfThread.l0 k (wrap64 (x4+1)) x439000 x439001 x439002 (x450000.set (x4:Int).toNat (⟨(rdQ x450000 x4).f0,t459,(rdQ x450000 x4).f2,(rdQ x450000 x4).f3,(rdQ x450000 x4).f4⟩:S35)) x450001 x450002) else (none))) else (rfThread.l0 k (wrap64 (x4+1)) x439000 x439001 x439002 x450000 x450001 x450002)))) else (none)) else (rfThread.l1 k 0 x439000 x439001 x439002 x450000 x450001 x450002)
def rfThread.l1:Nat→Int→List (S35)→List (S35)→List (S37)→List (S35)→List (S35)→List (S37)→Option ((List (S35)) × (List (S35)) × (List (S37)))
  | 0,_,_,_,_,_,_,_=>none
  | k+1,x5,x439000,x439001,x439002,x450000,x450001,x450002=>if x5 < (x439002.length:Int) then (if 0≤x5 then ((rffollow.f k x439000 x439001 x439002 ((rdR x439002 x5).f1) true).bind fun t462=>(if x5 < (x450002.length:Int) then (rfThread.l1 k (wrap64 (x5+1)) x439000 x439001 x439002 x450000 x450001 (x450002.set (x5:Int).toNat (⟨(rdR x450002 x5).f0,t462⟩:S37))) else (none))) else (none)) else (some (x450000,x450001,x450002))
end
def rfThread.f (k:Nat) (l0_0:List (S35)) (l0_1:List (S35)) (l0_2:List (S37)):Option ((List (S35)) × (List (S35)) × (List (S37))):=(rfcopied.f l0_0 l0_1 l0_2).bind fun bt440=>((rfisEnum.f l0_0 l0_1 l0_2).bind fun t450=>(if t450=true then (some (bt440.1,bt440.2.1,bt440.2.2)) else (rfThread.l0 k 0 l0_0 l0_1 l0_2 bt440.1 bt440.2.1 bt440.2.2)))
theorem rfThread.mono_l:∀ k,(∀ y0 y1 y2 y3 y4 y5 y6,LeO (rfThread.l0 k y0 y1 y2 y3 y4 y5 y6) (rfThread.l0 (k+1) y0 y1 y2 y3 y4 y5 y6))∧(∀ y0 y1 y2 y3 y4 y5 y6,LeO (rfThread.l1 k y0 y1 y2 y3 y4 y5 y6) (rfThread.l1 (k+1) y0 y1 y2 y3 y4 y5 y6))
  | 0=>⟨fun _ _ _ _ _ _ _ r h=>by simp [rfThread.l0] at h,fun _ _ _ _ _ _ _ r h=>by simp [rfThread.l1] at h⟩
  | k+1=>by
    obtain ⟨ih0,ih1⟩:=rfThread.mono_l k
    refine ⟨?_,?_⟩
    · intro y0 y1 y2 y3 y4 y5 y6
      unfold rfThread.l0
      repeat' first | (with_reducible exact ih0 _ _ _ _ _ _ _) | (with_reducible exact ih1 _ _ _ _ _ _ _) | (with_reducible exact rffollow.mono _ _ _ _ _ _) | (with_reducible exact LeO.refl _) | (with_reducible refine LeO.ite ?_ ?_) | (with_reducible refine LeO.bind ?_ (fun _=>?_))
    · intro y0 y1 y2 y3 y4 y5 y6
      unfold rfThread.l1
      repeat' first | (with_reducible exact ih1 _ _ _ _ _ _ _) | (with_reducible exact rffollow.mono _ _ _ _ _ _) | (with_reducible exact LeO.refl _) | (with_reducible refine LeO.ite ?_ ?_) | (with_reducible refine LeO.bind ?_ (fun _=>?_))
theorem rfThread.mono:∀ a0 a1 a2 k,LeO (rfThread.f k a0 a1 a2) (rfThread.f (k+1) a0 a1 a2):=by
  intro a0 a1 a2 k
  obtain ⟨ih0,ih1⟩:=rfThread.mono_l k
  unfold rfThread.f
  repeat' first | (with_reducible exact ih0 _ _ _ _ _ _ _) | (with_reducible exact LeO.refl _) | (with_reducible refine LeO.ite ?_ ?_) | (with_reducible refine LeO.bind ?_ (fun _=>?_))
def rfThread.T9:Bool × List (List Nat × List Nat):=(true,[([],[]),([0],[0]),([],[]),([],[]),([],[]),([4],[4]),([],[]),([5,6],[5,6]),([7],[7]),([8],[8]),([3,9],[3,9]),([1,2,0,1,2,3,4,5,6,7,8,9,10],[1,2]),([11,0,1,2,3,4,5,6,7,8,9,10],[11]),([12,10,10,0,1,2,3,4,5,6,7,8,9,10],[10,12])])
def rfThread.B9:List Nat:=[0,1,0,0,0,16,0,112,240,496,1016,2047,4095,8191]
theorem rfThread.tab9:rtab .any (opsOf Try.f16 9)=rfThread.T9:=by kernel_rfl
theorem rfThread.bits9:waitsOk rfThread.T9.2 rfThread.B9=true:=by kernel_rfl
def rfThread.T11:Bool × List (List Nat × List Nat):=(true,[([],[]),([0],[0]),([],[]),([],[]),([],[]),([4],[4]),([],[]),([5,6],[5,6]),([7],[7]),([8],[8]),([3,9],[3,9]),([1,2,0,1,2,3,4,5,6,7,8,9,10],[1,2]),([11,0,1,2,3,4,5,6,7,8,9,10],[11]),([12,10,10,0,1,2,3,4,5,6,7,8,9,10],[10,12])])
def rfThread.B11:List Nat:=[0,1,0,0,0,16,0,112,240,496,1016,2047,4095,8191]
theorem rfThread.tab11:rtab .any (opsOf Try.f16 11)=rfThread.T11:=by kernel_rfl
theorem rfThread.bits11:waitsOk rfThread.T11.2 rfThread.B11=true:=by kernel_rfl
def rfThread.T13:Bool × List (List Nat × List Nat):=(true,[([],[]),([0],[0]),([],[]),([],[]),([],[]),([4],[4]),([],[]),([5,6],[5,6]),([7],[7]),([8],[8]),([3,9],[3,9]),([1,2,0,1,2,3,4,5,6,7,8,9,10],[1,2]),([11,0,1,2,3,4,5,6,7,8,9,10],[11]),([12,10,10,0,1,2,3,4,5,6,7,8,9,10],[10,12])])
def rfThread.B13:List Nat:=[0,1,0,0,0,16,0,112,240,496,1016,2047,4095,8191]
theorem rfThread.tab13:rtab .any (opsOf Try.f16 13)=rfThread.T13:=by kernel_rfl
theorem rfThread.bits13:waitsOk rfThread.T13.2 rfThread.B13=true:=by kernel_rfl
def rfThread.T17:Bool × List (List Nat × List Nat):=(true,[([],[]),([0],[0]),([],[]),([],[]),([],[]),([4],[4]),([],[]),([5,6],[5,6]),([7],[7]),([8],[8]),([3,9],[3,9]),([1,2,0,1,2,3,4,5,6,7,8,9,10],[1,2]),([11,0,1,2,3,4,5,6,7,8,9,10],[11]),([12,10,10,0,1,2,3,4,5,6,7,8,9,10],[10,12])])
def rfThread.B17:List Nat:=[0,1,0,0,0,16,0,112,240,496,1016,2047,4095,8191]
theorem rfThread.tab17:rtab .any (opsOf Try.f16 17)=rfThread.T17:=by kernel_rfl
theorem rfThread.bits17:waitsOk rfThread.T17.2 rfThread.B17=true:=by kernel_rfl
set_option maxHeartbeats 8000000 in
set_option maxRecDepth 100000 in
theorem rfThread.calls (k:Nat) (aS:Option Addr) (aG:Nat) (ai:List (S35)) (aC:Option Addr) (aH:Nat) (aw:List (S35)) (aK:Option Addr) (aI:Nat) (ao:List (S37)) (r1:List (S35)) (r2:List (S35)) (r3:List (S37)) (w:World) (dq:Kd.C k35 w aS ai.length ai) (de:ai.length≤aG) (dr:Kd.C k35 w aC aw.length aw) (df:aw.length≤aH) (dt:Kd.C k37 w aK ao.length ao) (dg:ao.length≤aI) (h:rfThread.f k ai aw ao=some (r1,r2,r3)) :
    Calls Try.prog 16 #[.agg #[.slice aS ai.length aG,.slice aC aw.length aH,.slice aK ao.length aI]] w fun e w'=>∃ hV hW jh:Value,e=.returned (.agg #[hV,hW,jh])∧Kd.R k35 35 w' w.heap.size (fun k_=>some k_≠(hW:Value).ownBlock) hV r1∧Kd.R k35 35 w' w.heap.size (fun k_=>some k_≠(hV:Value).ownBlock) hW r2∧Kd.R k37 37 w' w.heap.size (fun _=>True) jh r3∧Below w.heap.size w w':=by
 have jA:=Try.underlying30
 have az:=Aside0.mk dq
 have bm:=Aside0.mk de
 clear dq de
 have bp:=Aside0.mk dr
 have bn:=Aside0.mk df
 clear dr df
 have aU:=Aside0.mk dt
 have bo:=Aside0.mk dg
 clear dt dg
 have HB:=Aside0.mk (Below.refl w.heap.size w)
 have H:((rfcopied.f ai aw ao).bind fun bR=>((rfisEnum.f ai aw ao).bind fun dI=>(if dI=true then (some (bR.1,bR.2.1,bR.2.2)) else (rfThread.l0 k 0 ai aw ao bR.1 bR.2.1 bR.2.2))))=some (r1,r2,r3):=h
 clear h
 replace H:=Option.bind_eq_some_iff.mp H
 obtain ⟨⟨aB,aJ,aA⟩,ig,H⟩:=H
 try dsimp only at H
 have A2:=Aside0.mk ig
 clear ig
 replace H:=Option.bind_eq_some_iff.mp H
 obtain ⟨dI,ih,H⟩:=H
 try dsimp only at H
 have A3:=Aside0.mk ih
 clear ih
 by_cases c4:dI=true
 ·subst c4
  replace H:=iP H
  simp only [Option.some.injEq,Prod.mk.injEq] at H
  obtain ⟨rfl,rfl,rfl⟩:=H
  go_enter Try.func16,Try.ntmps16
  go_wp2_with (first | ((with_reducible refine gate_dst (N:=1) rfl ?_);refine box_event ?hg (N:=1) ?hd (cs:=#[.slice aS ai.length aG,.slice aC aw.length aH,.slice aK ao.length aI]) (t:=30) ?hr ?_;(case hd=>rfl);(case hg=>rfl);(case hr=>(go_simp;done));intro ay hg w5 hbox hb;have ad:=Aside0.mk hbox;have dR:=qz HB hg;have dP:=qz HB hg;replace HB:=qs HB hb;clear hb hbox hg)|((with_reducible refine gate_dst (N:=2) rfl ?_);refine box_event ?hg (N:=2) ?hd (cs:=#[.slice none 0 0,.slice none 0 0,.slice none 0 0]) (t:=30) ?hr ?_;(case hd=>rfl);(case hg=>rfl);(case hr=>(go_simp;done));intro ap hg w6 hbox hb;have ah:=Aside0.mk hbox;have dS:=qz HB hg;have co:=qz HB hg;replace HB:=qs HB hb;have aq:=qn ad hg;have ar:=qN ad hg;replace ad:=qb ad hb;clear hb hbox hg;have jy:=aq.out;have jz:=ar.out;refine qc3 ad fun gT gU gV hs ht hu=>?_)|((with_reducible refine gate_callee (f:=37) rfl ?_);refine goesL_ (some 7) rfl rfl Try.func37 (by kernel_rfl) rfl #[.agg #[.slice aS ai.length aG,.slice aC aw.length aH,.slice aK ao.length aI]] rfl (by (try simp only [List.map_toArray,List.map_cons,List.map_nil]);(rfl)) ?_;(with_reducible refine (rfcopied.calls _ _ ai _ _ aw _ _ ao aB aJ aA _ ?aM ?aN ?aO ?aP ?aQ ?aR A2.out).mono ?_);(case aM=>exact (Kd.C_below az.out HB.out));(case aN=>exact bm.out);(case aO=>exact (Kd.C_below bp.out HB.out));(case aP=>exact bn.out);(case aQ=>exact (Kd.C_below aU.out HB.out));(case aR=>exact bo.out);rintro e w9 ⟨hX,hY,hZ,rfl,eN,eO,eP,hb⟩;refine ⟨_,rfl,?_⟩;have aD:=ql eN HB;have aE:=ql eO HB;have aF:=ql eP HB;replace ad:=qb ad hb;replace ah:=qb ah hb;replace HB:=qs HB hb;(try clear hb);(try clear eN);(try clear eO);(try clear eP))|((with_reducible refine gate_dst (N:=3) rfl ?_);refine box_event ?hg (N:=3) ?hd (cs:=#[.slice none 0 0,.slice none 0 0,.slice none 0 0]) (t:=30) ?hr ?_;(case hd=>rfl);(case hg=>rfl);(case hr=>(go_simp;done));intro am hg jB hbox hb;replace aD:=qB aD hb;replace aE:=qB aE hb;replace aF:=qB aF hb;have af:=Aside0.mk hbox;have dT:=qz HB hg;have aT:=qz HB hg;replace HB:=qs HB hb;have al:=qn ad hg;have av:=qN ad hg;replace ad:=qb ad hb;have au:=qn ah hg;have aL:=qN ah hg;replace ah:=qb ah hb;clear hb hbox hg;obtain ⟨bq,br,gG⟩:=Kd.R_slice aD.out;subst gG;have iq:=av.out;have iM:=al.out;have ir:=aL.out;have iN:=au.out;refine qc3 af fun eQ eR eS fB fC fD=>?_;obtain ⟨bN,bP,gH⟩:=Kd.R_slice aE.out;subst gH;obtain ⟨cd,cf,gI⟩:=Kd.R_slice aF.out;subst gI;refine qc3 ad fun eT eU eV fE fF fG=>?_)|((with_reducible refine gate_callee (f:=39) rfl ?_);refine goesL_ (some 9) rfl rfl Try.func39 (by kernel_rfl) rfl #[.agg #[.slice aS ai.length aG,.slice aC aw.length aH,.slice aK ao.length aI]] rfl (by (try simp only [List.map_toArray,List.map_cons,List.map_nil]);(rfl)) ?_;(with_reducible refine (rfisEnum.calls _ _ ai _ _ aw _ _ ao true _ ?aM ?aN ?aO ?aP ?aQ ?aR A3.out).mono ?_);(case aM=>exact Kd.C_below az.out (by repeat ((with_reducible first | exact HB.out | refine b_st ?_ aT.out))));(case aN=>exact bm.out);(case aO=>exact Kd.C_below bp.out (by repeat ((with_reducible first | exact HB.out | refine b_st ?_ aT.out))));(case aP=>exact bn.out);(case aQ=>exact Kd.C_below aU.out (by repeat ((with_reducible first | exact HB.out | refine b_st ?_ aT.out))));(case aR=>exact bo.out);rintro e jC ⟨rfl,hb⟩;refine ⟨_,rfl,?_⟩;replace aD:=Aside0.mk (Kd.R_below (by exact (Kd.R_mono (Kd.R_far (p:=⟨am,2,none⟩) (Kd.R_far (p:=⟨am,1,none⟩) (Kd.R_far (p:=⟨am,0,none⟩) (Kd.R_types aD.out af.out (by decide)) (fun _ hk=>hk.2) (.slice bq aB.length br)) (fun _ hk=>hk.2) (.slice bN aJ.length bP)) (fun _ hk=>hk.2) (.slice cd aA.length cf)) (fun _ h_=>h_.1))) hb);replace aE:=Aside0.mk (Kd.R_below (by exact (Kd.R_mono (Kd.R_far (p:=⟨am,2,none⟩) (Kd.R_far (p:=⟨am,1,none⟩) (Kd.R_far (p:=⟨am,0,none⟩) (Kd.R_types aE.out af.out (by decide)) (fun _ hk=>hk.2) (.slice bq aB.length br)) (fun _ hk=>hk.2) (.slice bN aJ.length bP)) (fun _ hk=>hk.2) (.slice cd aA.length cf)) (fun _ h_=>h_.1))) hb);replace aF:=Aside0.mk (Kd.R_below (by exact (Kd.R_mono (Kd.R_far (p:=⟨am,2,none⟩) (Kd.R_far (p:=⟨am,1,none⟩) (Kd.R_far (p:=⟨am,0,none⟩) (Kd.R_types aF.out af.out (by decide)) (fun _ hk=>hk.2) (.slice bq aB.length br)) (fun _ hk=>hk.2) (.slice bN aJ.length bP)) (fun _ hk=>hk.2) (.slice cd aA.length cf)) (fun _ h_=>h_.1))) hb);replace ad:=Aside0.mk (blk_below (g:=ay) (o:=.cells #[.slice aS ai.length aG,.slice aC aw.length aH,.slice aK ao.length aI] 30 (0,0)) (by refine blk_far ?_ al.out _;refine blk_far ?_ al.out _;refine blk_far ?_ al.out _;exact ad.out) hb);replace ah:=Aside0.mk (blk_below (g:=ap) (o:=.cells #[.slice none 0 0,.slice none 0 0,.slice none 0 0] 30 (0,0)) (by refine blk_far ?_ au.out _;refine blk_far ?_ au.out _;refine blk_far ?_ au.out _;exact ah.out) hb);replace af:=Aside0.mk (blk_below (g:=am) (o:=.cells #[.slice bq aB.length br,.slice bN aJ.length bP,.slice cd aA.length cf] 30 (0,0)) (by refine blk_put (cs:=#[.slice bq aB.length br,.slice bN aJ.length bP,.slice none 0 0]) ?_ 2 _ rfl;refine blk_put (cs:=#[.slice bq aB.length br,.slice none 0 0,.slice none 0 0]) ?_ 1 _ rfl;refine blk_put (cs:=#[.slice none 0 0,.slice none 0 0,.slice none 0 0]) ?_ 0 _ rfl;exact af.out) hb);replace HB:=Aside0.mk (below_step (by repeat ((with_reducible first | exact HB.out | refine b_st ?_ aT.out))) hb);(try clear hb);refine qc3 af fun eW eX eY fH fI fJ=>?_;refine qc3 ah fun eZ fa fb fK fL fM=>?_))
  refine bodyPost_ret (results_cell_row rfl _ _ ap 30 #[.slice bq aB.length br,.slice bN aJ.length bP,.slice cd aA.length cf] (0,0) _ rfl (by refine blk_put (cs:=#[.slice bq aB.length br,.slice bN aJ.length bP,.slice none 0 0]) ?_ 2 _ rfl;refine blk_put (cs:=#[.slice bq aB.length br,.slice none 0 0,.slice none 0 0]) ?_ 1 _ rfl;refine blk_put (cs:=#[.slice none 0 0,.slice none 0 0,.slice none 0 0]) ?_ 0 _ rfl;exact ah.out) Try.underlying30 rfl (by kernel_rfl)) rfl ?_
  exact ⟨_,_,_,by (rfl),by exact Kd.R_mono (Kd.R_far (p:=⟨ap,2,none⟩) (Kd.R_far (p:=⟨ap,1,none⟩) (Kd.R_far (p:=⟨ap,0,none⟩) (Kd.R_types aD.out ah.out (by decide)) (fun _ hk=>hk.2) (.slice bq aB.length br)) (fun _ hk=>hk.2) (.slice bN aJ.length bP)) (fun _ hk=>hk.2) (.slice cd aA.length cf)) (fun _ hk=>hk.1),by exact Kd.R_mono (Kd.R_far (p:=⟨ap,2,none⟩) (Kd.R_far (p:=⟨ap,1,none⟩) (Kd.R_far (p:=⟨ap,0,none⟩) (Kd.R_types aE.out ah.out (by decide)) (fun _ hk=>hk.2) (.slice bq aB.length br)) (fun _ hk=>hk.2) (.slice bN aJ.length bP)) (fun _ hk=>hk.2) (.slice cd aA.length cf)) (fun _ hk=>hk.1),by exact Kd.R_mono (Kd.R_far (p:=⟨ap,2,none⟩) (Kd.R_far (p:=⟨ap,1,none⟩) (Kd.R_far (p:=⟨ap,0,none⟩) (Kd.R_types aF.out ah.out (by decide)) (fun _ hk=>hk.2) (.slice bq aB.length br)) (fun _ hk=>hk.2) (.slice bN aJ.length bP)) (fun _ hk=>hk.2) (.slice cd aA.length cf)) (fun _ hk=>trivial),by repeat ((with_reducible first | exact HB.out | refine b_st ?_ co.out))⟩
 replace c4:=Bool.eq_false_iff.mpr c4
 subst c4
 replace H:=iF H
 have H':=Aside0.mk H
 clear H
 go_enter Try.func16,Try.ntmps16
 go_wp2_with (first | ((with_reducible refine gate_dst (N:=1) rfl ?_);refine box_event ?hg (N:=1) ?hd (cs:=#[.slice aS ai.length aG,.slice aC aw.length aH,.slice aK ao.length aI]) (t:=30) ?hr ?_;(case hd=>rfl);(case hg=>rfl);(case hr=>(go_simp;done));intro ay hg jD hbox hb;have ad:=Aside0.mk hbox;have dR:=qz HB hg;have dP:=qz HB hg;replace HB:=qs HB hb;clear hb hbox hg)|((with_reducible refine gate_dst (N:=2) rfl ?_);refine box_event ?hg (N:=2) ?hd (cs:=#[.slice none 0 0,.slice none 0 0,.slice none 0 0]) (t:=30) ?hr ?_;(case hd=>rfl);(case hg=>rfl);(case hr=>(go_simp;done));intro ap hg jE hbox hb;have ah:=Aside0.mk hbox;have dS:=qz HB hg;have co:=qz HB hg;replace HB:=qs HB hb;have aq:=qn ad hg;have ar:=qN ad hg;replace ad:=qb ad hb;clear hb hbox hg;have it:=aq.out;have iO:=ar.out;refine qc3 ad fun cF cG cH cR cS cT=>?_)|((with_reducible refine gate_callee (f:=37) rfl ?_);refine goesL_ (some 7) rfl rfl Try.func37 (by kernel_rfl) rfl #[.agg #[.slice aS ai.length aG,.slice aC aw.length aH,.slice aK ao.length aI]] rfl (by (try simp only [List.map_toArray,List.map_cons,List.map_nil]);(rfl)) ?_;(with_reducible refine (rfcopied.calls _ _ ai _ _ aw _ _ ao aB aJ aA _ ?aM ?aN ?aO ?aP ?aQ ?aR A2.out).mono ?_);(case aM=>exact (Kd.C_below az.out HB.out));(case aN=>exact bm.out);(case aO=>exact (Kd.C_below bp.out HB.out));(case aP=>exact bn.out);(case aQ=>exact (Kd.C_below aU.out HB.out));(case aR=>exact bo.out);rintro e jF ⟨hX,hY,hZ,rfl,eN,eO,eP,hb⟩;refine ⟨_,rfl,?_⟩;have aD:=ql eN HB;have aE:=ql eO HB;have aF:=ql eP HB;replace ad:=qb ad hb;replace ah:=qb ah hb;replace HB:=qs HB hb;(try clear hb);(try clear eN);(try clear eO);(try clear eP))|((with_reducible refine gate_dst (N:=3) rfl ?_);refine box_event ?hg (N:=3) ?hd (cs:=#[.slice none 0 0,.slice none 0 0,.slice none 0 0]) (t:=30) ?hr ?_;(case hd=>rfl);(case hg=>rfl);(case hr=>(go_simp;done));intro am hg jG hbox hb;replace aD:=qB aD hb;replace aE:=qB aE hb;replace aF:=qB aF hb;have af:=Aside0.mk hbox;have dT:=qz HB hg;have aT:=qz HB hg;replace HB:=qs HB hb;have al:=qn ad hg;have av:=qN ad hg;replace ad:=qb ad hb;have au:=qn ah hg;have aL:=qN ah hg;replace ah:=qb ah hb;clear hb hbox hg;obtain ⟨cg,ch,gJ⟩:=Kd.R_slice aD.out;subst gJ;have iu:=av.out;have iQ:=al.out;have iv:=aL.out;have iR:=au.out;refine qc3 af fun cI cJ cK cU cV cW=>?_;obtain ⟨cj,cl,gK⟩:=Kd.R_slice aE.out;subst gK;obtain ⟨bO,bQ,gL⟩:=Kd.R_slice aF.out;subst gL;refine qc3 ad fun cL cM cN cX cY cZ=>?_)|((with_reducible refine gate_callee (f:=39) rfl ?_);refine goesL_ (some 9) rfl rfl Try.func39 (by kernel_rfl) rfl #[.agg #[.slice aS ai.length aG,.slice aC aw.length aH,.slice aK ao.length aI]] rfl (by (try simp only [List.map_toArray,List.map_cons,List.map_nil]);(rfl)) ?_;(with_reducible refine (rfisEnum.calls _ _ ai _ _ aw _ _ ao false _ ?aM ?aN ?aO ?aP ?aQ ?aR A3.out).mono ?_);(case aM=>exact Kd.C_below az.out (by repeat ((with_reducible first | exact HB.out | refine b_st ?_ aT.out))));(case aN=>exact bm.out);(case aO=>exact Kd.C_below bp.out (by repeat ((with_reducible first | exact HB.out | refine b_st ?_ aT.out))));(case aP=>exact bn.out);(case aQ=>exact Kd.C_below aU.out (by repeat ((with_reducible first | exact HB.out | refine b_st ?_ aT.out))));(case aR=>exact bo.out);rintro e jH ⟨rfl,hb⟩;refine ⟨_,rfl,?_⟩;replace aD:=Aside0.mk (Kd.R_below (by exact (Kd.R_mono (Kd.R_far (p:=⟨am,2,none⟩) (Kd.R_far (p:=⟨am,1,none⟩) (Kd.R_far (p:=⟨am,0,none⟩) (Kd.R_types aD.out af.out (by decide)) (fun _ hk=>hk.2) (.slice cg aB.length ch)) (fun _ hk=>hk.2) (.slice cj aJ.length cl)) (fun _ hk=>hk.2) (.slice bO aA.length bQ)) (fun _ h_=>h_.1))) hb);replace aE:=Aside0.mk (Kd.R_below (by exact (Kd.R_mono (Kd.R_far (p:=⟨am,2,none⟩) (Kd.R_far (p:=⟨am,1,none⟩) (Kd.R_far (p:=⟨am,0,none⟩) (Kd.R_types aE.out af.out (by decide)) (fun _ hk=>hk.2) (.slice cg aB.length ch)) (fun _ hk=>hk.2) (.slice cj aJ.length cl)) (fun _ hk=>hk.2) (.slice bO aA.length bQ)) (fun _ h_=>h_.1))) hb);replace aF:=Aside0.mk (Kd.R_below (by exact (Kd.R_mono (Kd.R_far (p:=⟨am,2,none⟩) (Kd.R_far (p:=⟨am,1,none⟩) (Kd.R_far (p:=⟨am,0,none⟩) (Kd.R_types aF.out af.out (by decide)) (fun _ hk=>hk.2) (.slice cg aB.length ch)) (fun _ hk=>hk.2) (.slice cj aJ.length cl)) (fun _ hk=>hk.2) (.slice bO aA.length bQ)) (fun _ h_=>h_.1))) hb);replace ad:=Aside0.mk (blk_below (g:=ay) (o:=.cells #[.slice aS ai.length aG,.slice aC aw.length aH,.slice aK ao.length aI] 30 (0,0)) (by refine blk_far ?_ al.out _;refine blk_far ?_ al.out _;refine blk_far ?_ al.out _;exact ad.out) hb);replace ah:=Aside0.mk (blk_below (g:=ap) (o:=.cells #[.slice none 0 0,.slice none 0 0,.slice none 0 0] 30 (0,0)) (by refine blk_far ?_ au.out _;refine blk_far ?_ au.out _;refine blk_far ?_ au.out _;exact ah.out) hb);replace af:=Aside0.mk (blk_below (g:=am) (o:=.cells #[.slice cg aB.length ch,.slice cj aJ.length cl,.slice bO aA.length bQ] 30 (0,0)) (by refine blk_put (cs:=#[.slice cg aB.length ch,.slice cj aJ.length cl,.slice none 0 0]) ?_ 2 _ rfl;refine blk_put (cs:=#[.slice cg aB.length ch,.slice none 0 0,.slice none 0 0]) ?_ 1 _ rfl;refine blk_put (cs:=#[.slice none 0 0,.slice none 0 0,.slice none 0 0]) ?_ 0 _ rfl;exact af.out) hb);replace HB:=Aside0.mk (below_step (by repeat ((with_reducible first | exact HB.out | refine b_st ?_ aT.out))) hb);(try clear hb)))
 go_loopg [4] k (fun kq v4 w'=>∃ (ab:Int) (aa:List (S35)) (an:List (S35)) (u450000:Value) (u450001:Value),v4=.int .i64 ab∧Aside0 (rfThread.l0 kq ab ai aw ao aa an aA=some (r1,r2,r3))∧Aside0 (kq≤k)∧Aside0 (Kd.R k35 35 w' w.heap.size (fun k_=>some k_≠(u450001:Value).ownBlock) u450000 aa)∧Aside0 (Kd.R k35 35 w' w.heap.size (fun k_=>some k_≠(u450000:Value).ownBlock) u450001 an)∧Aside0 (Kd.R k37 37 w' w.heap.size (fun _=>True) (.slice bO aA.length bQ) aA)∧Aside0 (w'.heap[ay]?=some (.cells #[(.slice aS ai.length aG),(.slice aC aw.length aH),(.slice aK ao.length aI)] 30 (0,0)))∧Aside0 (w'.heap[ap]?=some (.cells #[(.slice none 0 0),(.slice none 0 0),(.slice none 0 0)] 30 (0,0)))∧Aside0 (w'.heap[am]?=some (.cells #[u450000,u450001,(.slice bO aA.length bQ)] 30 (0,0)))∧Aside0 (Below w.heap.size w w'))
 case atStart=>exact ⟨(0),(aB),(aJ),(.slice cg aB.length ch),(.slice cj aJ.length cl),rfl,H',⟨Nat.le_refl _⟩,aD,aE,aF,ad,ah,af,HB⟩
 clear H'
 clear cF cG cH cI cJ cK cL cM cN cR cS cT cU cV cW cX cY cZ
 obtain ⟨ab,aa,an,u450000,u450001,rfl,HA,cC,ac,ag,ae,ad,ah,af,HB⟩:=hrel
 obtain _ | k1:=gk
 ·exact absurd HA.out (by simp [rfThread.l0])
 have H:=HA.out
 clear HA
 simp only [rfThread.l0] at H
 by_cases dJ:ab < (ai.length:Int)
 ·rw [if_pos dJ] at H
  have dd:=decide_eq_true dJ
  clear dJ
  replace H:=iNd H
  obtain ⟨ij,H⟩:=H
  by_cases ef:((rdQ ai ab).f0)=2
  ·rw [if_pos ef] at H
   obtain ⟨eg,eh⟩:=cBt ef
   clear ef
   replace H:=Option.bind_eq_some_iff.mp H
   obtain ⟨cy,dL,H⟩:=H
   try dsimp only at H
   have ji:=Aside0.mk dL
   clear dL
   replace H:=iNd H
   obtain ⟨ik,H⟩:=H
   obtain ⟨ia,cu⟩:∃ y_:List (S35),y_=(aa.set (ab:Int).toNat (⟨(rdQ aa ab).f0,(rdQ aa ab).f1,cy,(rdQ aa ab).f3,(rdQ aa ab).f4⟩:S35)):=⟨_,rfl⟩
   rw [← cu] at H
   have dY:=Aside0.mk cu
   clear cu
   have H':=Aside0.mk H
   clear H
   have iw:=aq.out
   have iS:=ar.out
   have ix:=al.out
   have iT:=av.out
   refine qc3 ad fun fc fd fe fN fO fP=>?_
   obtain ⟨ak,ci,dy,dD,bY,bZ,ca,cb,cc⟩:=rd35 az HB ab
   cases ci
   try go_wp2
   replace ac:=qD ac
   replace ag:=qD ag
   replace ae:=qD ae
   replace ad:=qr ad
   replace ah:=qr ah
   replace af:=qr af
   replace HB:=qd HB
   have dz:0≤(ab:Int):=od
   have dE:ab < (ai.length:Int):=od
   obtain ⟨ec,gC,aV,aW,aX,aY,aZ⟩:=at_T35 az.out ab dz dE
   have bw:=aZ
   have bv:=aY
   have bu:=aX
   have bt:=aW
   have bs:=aV
   obtain rfl:ak=ec:=(by injection gC)
   replace aV:=(HB.out.cell (World.block_lt_of_cell? w _ aV)).trans aV
   replace aW:=(HB.out.cell (World.block_lt_of_cell? w _ aW)).trans aW
   replace aX:=(HB.out.cell (World.block_lt_of_cell? w _ aX)).trans aX
   replace aY:=(HB.out.cell (World.block_lt_of_cell? w _ aY)).trans aY
   replace aZ:=(HB.out.cell (World.block_lt_of_cell? w _ aZ)).trans aZ
   replace dz:=eq_true dz
   replace dE:=eq_true dE
   refine start_ (n:=14) (S:=fun w'=>w'.cell? ⟨am,0,none⟩=some (u450000)∧w'.cell? ⟨am,1,none⟩=some (u450001)∧w'.cell? ⟨am,2,none⟩=some (.slice bO aA.length bQ)∧w'.cell? ⟨ay,0,none⟩=some (.slice (some ak) ai.length aG)∧w'.cell? ⟨ay,1,none⟩=some (.slice aC aw.length aH)∧w'.cell? ⟨ay,2,none⟩=some (.slice aK ao.length aI)∧w'.cell? (ak.add ((ab).toNat*5))=some (.int .i64 ((rdQ ai ab).f0))∧w'.cell? ⟨(ak.add ((ab).toNat*5)).block,(ak.add ((ab).toNat*5)).off+1,none⟩=some (.int .i64 ((rdQ ai ab).f1))∧w'.cell? ⟨(ak.add ((ab).toNat*5)).block,(ak.add ((ab).toNat*5)).off+2,none⟩=some (.int .i64 ((rdQ ai ab).f2))∧w'.cell? ⟨(ak.add ((ab).toNat*5)).block,(ak.add ((ab).toNat*5)).off+3,none⟩=some (.int .i64 ((rdQ ai ab).f3))∧w'.cell? ⟨(ak.add ((ab).toNat*5)).block,(ak.add ((ab).toNat*5)).off+4,none⟩=some (.int .i64 ((rdQ ai ab).f4))) (ds:=[13]) (fl 14 0) (by kernel_rfl) rfl rfl ⟨(bk_c af.out 0).trans rfl,(bk_c af.out 1).trans rfl,(bk_c af.out 2).trans rfl,(bk_c ad.out 0).trans rfl,(bk_c ad.out 1).trans rfl,(bk_c ad.out 2).trans rfl,((HB.out.cell (World.block_lt_of_cell? w _ bs)).trans bs),((HB.out.cell (World.block_lt_of_cell? w _ bt)).trans bt),((HB.out.cell (World.block_lt_of_cell? w _ bu)).trans bu),((HB.out.cell (World.block_lt_of_cell? w _ bv)).trans bv),((HB.out.cell (World.block_lt_of_cell? w _ bw)).trans bw)⟩ (fun hHeld=>?_);refine with_tabW rfThread.tab9 rfThread.bits9 (fun HT_ HW_=>?_)
   generalize wr.drew=jI at ac ag ae ad ah af HB aV aW aX aY aZ hHeld ⊢
   refine pA 14 0 26 1 ?_ HT_ (by kernel_rfl) rfl rfl (fun _ _ _ h=>h) (by rfl) ?_ ?_ ?_ ?_
   rotate_left
   intro w'
   go_simp
   with_reducible rfl
   rotate_left
   simp only [Act.put,s1,s2,s3,i64_w,i32_w]
   rfl
   refine pA 14 2 28 5 ?_ HT_ (by kernel_rfl) rfl rfl (fun _ _ _ h=>h) (by rfl) ?_ ?_ ?_ ?_
   rotate_left
   intro w'
   go_simp
   with_reducible rfl
   rotate_left
   simp only [Act.put,s1,s2,s3,i64_w,i32_w]
   rfl
   refine pA 14 4 30 21 ?_ HT_ (by kernel_rfl) rfl rfl (fun _ _ _ h=>h) (by rfl) ?_ ?_ ?_ ?_
   rotate_left
   intro w'
   go_simp
   with_reducible rfl
   rotate_left
   simp only [Act.put,s1,s2,s3,i64_w,i32_w]
   rfl
   refine pA 14 6 32 85 ?_ HT_ (by kernel_rfl) rfl rfl (fun _ _ _ h=>h) (by rfl) ?_ ?_ ?_ ?_
   rotate_left
   intro w'
   go_simp
   with_reducible rfl
   rotate_left
   simp only [Act.put,s1,s2,s3,i64_w,i32_w]
   rfl
   refine pT 14 1 27 87 ?_ HT_ HW_ (by kernel_rfl) rfl rfl (fun _ _ _ h=>h) (by rfl) ?_ hHeld ?_ ?_ ?_
   rotate_left
   rintro w' ⟨_,_,_,_,_,_,_,_,_,_,_⟩
   go_simp
   with_reducible rfl
   rotate_left
   simp only [Act.put,s1,s2,s3,i64_w,i32_w]
   rfl
   refine pT 14 3 29 95 ?_ HT_ HW_ (by kernel_rfl) rfl rfl (fun _ _ _ h=>h) (by rfl) ?_ hHeld ?_ ?_ ?_
   rotate_left
   rintro w' ⟨_,_,_,_,_,_,_,_,_,_,_⟩
   go_simp
   with_reducible rfl
   rotate_left
   simp only [Act.put,s1,s2,s3,i64_w,i32_w]
   rfl
   refine pT 14 5 31 127 ?_ HT_ HW_ (by kernel_rfl) rfl rfl (fun _ _ _ h=>h) (by rfl) ?_ hHeld ?_ ?_ ?_
   rotate_left
   rintro w' ⟨_,_,_,_,_,_,_,_,_,_,_⟩
   go_simp
   with_reducible rfl
   rotate_left
   simp only [Act.put,s1,s2,s3,i64_w,i32_w]
   rfl
   refine pA 14 7 33 255 ?_ HT_ (by kernel_rfl) rfl rfl (fun _ _ _ h=>h) (by rfl) ?_ ?_ ?_ ?_
   rotate_left
   intro w'
   go_simp
   with_reducible rfl
   rotate_left
   simp only [Act.put,s1,s2,s3,i64_w,i32_w]
   rfl
   refine pA 14 8 34 511 ?_ HT_ (by kernel_rfl) rfl rfl (fun _ _ _ h=>h) (by rfl) ?_ ?_ ?_ ?_
   rotate_left
   intro w'
   go_simp
   with_reducible rfl
   rotate_left
   simp only [Act.put,s1,s2,s3,i64_w,i32_w]
   rfl
   refine pT 14 9 35 1023 ?_ HT_ HW_ (by kernel_rfl) rfl rfl (fun _ _ _ h=>h) (by rfl) ?_ hHeld ?_ ?_ ?_
   rotate_left
   rintro w' ⟨_,_,_,_,_,_,_,_,_,_,_⟩
   go_simp
   with_reducible rfl
   rotate_left
   simp only [Act.put,s1,s2,s3,i64_w,i32_w]
   rfl
   refine pO 14 10 2047 (some 36) HT_ (by kernel_rfl) rfl rfl (by decide) (fun K hK=>?_)
   refine goes_ Try.func44 (by kernel_rfl) rfl #[.agg #[.slice (some ak) ai.length aG,.slice aC aw.length aH,.slice aK ao.length aI],.int .i64 ((rdQ ai ab).f2),.bool true] (by rfl) rfl rfl (by (try simp only [List.map_toArray,List.map_cons,List.map_nil]);(rfl)) ?_
   with_reducible refine (rffollow.calls k1 _ _ ai _ _ aw _ _ ao ((rdQ ai ab).f2) true cy _ ?aM ?aN ?aO ?aP ?aQ ?aR ji.out).mono ?_
   (case aM=>exact (Kd.C_below az.out HB.out))
   (case aN=>exact bm.out)
   (case aO=>exact (Kd.C_below bp.out HB.out))
   (case aP=>exact bn.out)
   (case aQ=>exact (Kd.C_below aU.out HB.out))
   (case aR=>exact bo.out)
   rintro e jJ ⟨rfl,hb⟩
   refine ⟨_,rfl,?_⟩
   replace ac:=qB ac hb
   replace ag:=qB ag hb
   replace ae:=qB ae hb
   replace ad:=qb ad hb
   replace ah:=qb ah hb
   replace af:=qb af hb
   replace HB:=qs HB hb
   (try clear hb)
   have hN:0≤(ab:Int):=od
   have hR:(ab:Int) < ((aa.length:Int):Int):=od
   obtain ⟨bK,gy,ep,et,gP,ju,dU⟩:=Kd.R_form ac.out (by omega)
   (first | cases ep | (injection ep with ea_ en_ ec_;(fail);subst ec_;clear en_))
   have gm:=Aside0.mk et
   have gr:=Aside0.mk dU
   clear et gP dU
   obtain ⟨jm,eF,ex,bS,bV⟩:=Kd.R_elem ac.out z35 (ab:Int) hN hR
   obtain rfl:=k35_openM ex
   have hv:World.cell? _ ⟨bK,(ab:Int).toNat*5,none⟩=some (.int .i64 ((rdQ aa ab).f0)):=bS 0 _ rfl
   have hw:World.cell? _ ⟨bK,(ab:Int).toNat*5+1,none⟩=some (.int .i64 ((rdQ aa ab).f1)):=bS 1 _ rfl
   have hx:World.cell? _ ⟨bK,(ab:Int).toNat*5+2,none⟩=some (.int .i64 ((rdQ aa ab).f2)):=bS 2 _ rfl
   have hy:World.cell? _ ⟨bK,(ab:Int).toNat*5+3,none⟩=some (.int .i64 ((rdQ aa ab).f3)):=bS 3 _ rfl
   have hz:World.cell? _ ⟨bK,(ab:Int).toNat*5+4,none⟩=some (.int .i64 ((rdQ aa ab).f4)):=bS 4 _ rfl
   have gW:World.frozen? _ ⟨bK,(ab:Int).toNat*5,none⟩=false:=bV 0
   have gX:World.frozen? _ ⟨bK,(ab:Int).toNat*5+1,none⟩=false:=bV 1
   have gY:World.frozen? _ ⟨bK,(ab:Int).toNat*5+2,none⟩=false:=bV 2
   have gZ:World.frozen? _ ⟨bK,(ab:Int).toNat*5+3,none⟩=false:=bV 3
   have ha:World.frozen? _ ⟨bK,(ab:Int).toNat*5+4,none⟩=false:=bV 4
   clear eF bS bV ex
   replace hN:=eq_true hN
   replace hR:=eq_true hR
   obtain ⟨jn,dl,ey,dh,eJ⟩:=Kd.R_elem ac.out z35 (ab:Int) od (by have h_:(ab:Int) < ((aa.length:Int):Int):=od;(exact h_))
   obtain rfl:=k35_openM ey
   have du:=(Kd.R_seg ac.out (ab:Int) od (by have h_:(ab:Int) < ((aa.length:Int):Int):=od;(exact h_)) (seg:=[.int .i64 cy]) (j:=2) dl dh (show 3≤5 from by decide) (x':=(⟨(rdQ aa ab).f0,(rdQ aa ab).f1,cy,(rdQ aa ab).f3,(rdQ aa ab).f4⟩:S35)) (k35_mkM _ _ _ (⟨(rdQ aa ab).f0,(rdQ aa ab).f1,cy,(rdQ aa ab).f3,(rdQ aa ab).f4⟩:S35) ) (fun _ hk=>hk)).1
   rw [← dY.out] at du
   have gu:=Aside0.mk du
   clear dl dh eJ ey du
   refine hK.out _ _ ⟨(bk_c af.out 0).trans rfl,(bk_c af.out 1).trans rfl,(bk_c af.out 2).trans rfl,(bk_c ad.out 0).trans rfl,(bk_c ad.out 1).trans rfl,(bk_c ad.out 2).trans rfl,((HB.out.cell (World.block_lt_of_cell? w _ bs)).trans bs),((HB.out.cell (World.block_lt_of_cell? w _ bt)).trans bt),((HB.out.cell (World.block_lt_of_cell? w _ bu)).trans bu),((HB.out.cell (World.block_lt_of_cell? w _ bv)).trans bv),((HB.out.cell (World.block_lt_of_cell? w _ bw)).trans bw)⟩ (fun hHeld=>?_)
   clear hK K
   refine norm_ (a':=?_) ?_ ?_
   rotate_left
   ·show Act.put _ (some 36) _=_
    simp only [Act.put,s1,s2,s3,i64_w,i32_w]
    rfl
   refine pA 14 11 37 4095 ?_ HT_ (by kernel_rfl) rfl rfl (fun _ _ _ h=>h) (by rfl) ?_ ?_ ?_ ?_
   rotate_left
   intro w'
   go_simp
   with_reducible rfl
   rotate_left
   simp only [Act.put,s1,s2,s3,i64_w,i32_w]
   rfl
   refine pA 14 12 38 8191 ?_ HT_ (by kernel_rfl) rfl rfl (fun _ _ _ h=>h) (by rfl) ?_ ?_ ?_ ?_
   rotate_left
   intro w'
   go_simp
   with_reducible rfl
   rotate_left
   simp only [Act.put,s1,s2,s3,i64_w,i32_w]
   rfl
   refine pL 14 13 16383 (none) HT_ (by kernel_rfl) rfl rfl (by decide) (fun K hK=>?_)
   refine skip_ (w1:=?_) (by rfl) rfl ?_ ?_
   rotate_left
   ·go_simp
    rfl
   refine hK.out _ _ ?_
   clear hK K
   refine done_ (done_of HT_.out (by kernel_rfl)) ?_
   try go_wp2
   go_roundg k1
   case measure=>have:=cC.out;omega
   case rel=>exact ⟨(wrap64 (ab+1)),(ia),(an),(.slice (some ⟨bK,0,none⟩) aa.length gy),(u450001),rfl,H',⟨by have:=cC.out;omega⟩,gu,zM ag (fun _ hk=>fun e_=>hk (by rw [e_];rfl)) kb1,zRm ae gr (by decide) kb1 (fun _ _=>trivial),zb ad (zn ac ad (by decide)) kb1,zb ah (zn ac ah (by decide)) kb1,zb af (zn ac af (by decide)) kb1,⟨by repeat ((with_reducible first | exact HB.out | refine b_st ?_ gm.out))⟩⟩
  rw [if_neg ef] at H
  obtain ⟨eg,eh⟩:=cBf ef
  by_cases ei:((rdQ ai ab).f0)=3
  ·rw [if_pos ei] at H
   obtain ⟨ej,ek⟩:=cBt ei
   clear ei
   replace H:=Option.bind_eq_some_iff.mp H
   obtain ⟨cz,dM,H⟩:=H
   try dsimp only at H
   have jj:=Aside0.mk dM
   clear dM
   replace H:=iNd H
   obtain ⟨il,H⟩:=H
   obtain ⟨ib,cv⟩:∃ y_:List (S35),y_=(aa.set (ab:Int).toNat (⟨(rdQ aa ab).f0,cz,(rdQ aa ab).f2,(rdQ aa ab).f3,(rdQ aa ab).f4⟩:S35)):=⟨_,rfl⟩
   rw [← cv] at H
   have dZ:=Aside0.mk cv
   clear cv
   have H':=Aside0.mk H
   clear H
   have iy:=aq.out
   have iU:=ar.out
   have iz:=al.out
   have iV:=av.out
   refine qc3 ad fun ff fg fh fQ fR fS=>?_
   obtain ⟨ak,ci,dy,dD,bY,bZ,ca,cb,cc⟩:=rd35 az HB ab
   cases ci
   try go_wp2
   replace ac:=qD ac
   replace ag:=qD ag
   replace ae:=qD ae
   replace ad:=qr ad
   replace ah:=qr ah
   replace af:=qr af
   replace HB:=qd HB
   have dA:0≤(ab:Int):=od
   have dF:ab < (ai.length:Int):=od
   obtain ⟨ed,gD,ba,bb,bc,bd,be⟩:=at_T35 az.out ab dA dF
   have bC:=be
   have bB:=bd
   have bA:=bc
   have bz:=bb
   have bx:=ba
   obtain rfl:ak=ed:=(by injection gD)
   replace ba:=(HB.out.cell (World.block_lt_of_cell? w _ ba)).trans ba
   replace bb:=(HB.out.cell (World.block_lt_of_cell? w _ bb)).trans bb
   replace bc:=(HB.out.cell (World.block_lt_of_cell? w _ bc)).trans bc
   replace bd:=(HB.out.cell (World.block_lt_of_cell? w _ bd)).trans bd
   replace be:=(HB.out.cell (World.block_lt_of_cell? w _ be)).trans be
   replace dA:=eq_true dA
   replace dF:=eq_true dF
   refine start_ (n:=14) (S:=fun w'=>w'.cell? ⟨am,0,none⟩=some (u450000)∧w'.cell? ⟨am,1,none⟩=some (u450001)∧w'.cell? ⟨am,2,none⟩=some (.slice bO aA.length bQ)∧w'.cell? ⟨ay,0,none⟩=some (.slice (some ak) ai.length aG)∧w'.cell? ⟨ay,1,none⟩=some (.slice aC aw.length aH)∧w'.cell? ⟨ay,2,none⟩=some (.slice aK ao.length aI)∧w'.cell? (ak.add ((ab).toNat*5))=some (.int .i64 ((rdQ ai ab).f0))∧w'.cell? ⟨(ak.add ((ab).toNat*5)).block,(ak.add ((ab).toNat*5)).off+1,none⟩=some (.int .i64 ((rdQ ai ab).f1))∧w'.cell? ⟨(ak.add ((ab).toNat*5)).block,(ak.add ((ab).toNat*5)).off+2,none⟩=some (.int .i64 ((rdQ ai ab).f2))∧w'.cell? ⟨(ak.add ((ab).toNat*5)).block,(ak.add ((ab).toNat*5)).off+3,none⟩=some (.int .i64 ((rdQ ai ab).f3))∧w'.cell? ⟨(ak.add ((ab).toNat*5)).block,(ak.add ((ab).toNat*5)).off+4,none⟩=some (.int .i64 ((rdQ ai ab).f4))) (ds:=[13]) (fl 14 0) (by kernel_rfl) rfl rfl ⟨(bk_c af.out 0).trans rfl,(bk_c af.out 1).trans rfl,(bk_c af.out 2).trans rfl,(bk_c ad.out 0).trans rfl,(bk_c ad.out 1).trans rfl,(bk_c ad.out 2).trans rfl,((HB.out.cell (World.block_lt_of_cell? w _ bx)).trans bx),((HB.out.cell (World.block_lt_of_cell? w _ bz)).trans bz),((HB.out.cell (World.block_lt_of_cell? w _ bA)).trans bA),((HB.out.cell (World.block_lt_of_cell? w _ bB)).trans bB),((HB.out.cell (World.block_lt_of_cell? w _ bC)).trans bC)⟩ (fun hHeld=>?_);refine with_tabW rfThread.tab11 rfThread.bits11 (fun HT_ HW_=>?_)
   generalize wr.drew=jK at ac ag ae ad ah af HB ba bb bc bd be hHeld ⊢
   refine pA 14 0 41 1 ?_ HT_ (by kernel_rfl) rfl rfl (fun _ _ _ h=>h) (by rfl) ?_ ?_ ?_ ?_
   rotate_left
   intro w'
   go_simp
   with_reducible rfl
   rotate_left
   simp only [Act.put,s1,s2,s3,i64_w,i32_w]
   rfl
   refine pA 14 2 43 5 ?_ HT_ (by kernel_rfl) rfl rfl (fun _ _ _ h=>h) (by rfl) ?_ ?_ ?_ ?_
   rotate_left
   intro w'
   go_simp
   with_reducible rfl
   rotate_left
   simp only [Act.put,s1,s2,s3,i64_w,i32_w]
   rfl
   refine pA 14 4 45 21 ?_ HT_ (by kernel_rfl) rfl rfl (fun _ _ _ h=>h) (by rfl) ?_ ?_ ?_ ?_
   rotate_left
   intro w'
   go_simp
   with_reducible rfl
   rotate_left
   simp only [Act.put,s1,s2,s3,i64_w,i32_w]
   rfl
   refine pA 14 6 47 85 ?_ HT_ (by kernel_rfl) rfl rfl (fun _ _ _ h=>h) (by rfl) ?_ ?_ ?_ ?_
   rotate_left
   intro w'
   go_simp
   with_reducible rfl
   rotate_left
   simp only [Act.put,s1,s2,s3,i64_w,i32_w]
   rfl
   refine pT 14 1 42 87 ?_ HT_ HW_ (by kernel_rfl) rfl rfl (fun _ _ _ h=>h) (by rfl) ?_ hHeld ?_ ?_ ?_
   rotate_left
   rintro w' ⟨_,_,_,_,_,_,_,_,_,_,_⟩
   go_simp
   with_reducible rfl
   rotate_left
   simp only [Act.put,s1,s2,s3,i64_w,i32_w]
   rfl
   refine pT 14 3 44 95 ?_ HT_ HW_ (by kernel_rfl) rfl rfl (fun _ _ _ h=>h) (by rfl) ?_ hHeld ?_ ?_ ?_
   rotate_left
   rintro w' ⟨_,_,_,_,_,_,_,_,_,_,_⟩
   go_simp
   with_reducible rfl
   rotate_left
   simp only [Act.put,s1,s2,s3,i64_w,i32_w]
   rfl
   refine pT 14 5 46 127 ?_ HT_ HW_ (by kernel_rfl) rfl rfl (fun _ _ _ h=>h) (by rfl) ?_ hHeld ?_ ?_ ?_
   rotate_left
   rintro w' ⟨_,_,_,_,_,_,_,_,_,_,_⟩
   go_simp
   with_reducible rfl
   rotate_left
   simp only [Act.put,s1,s2,s3,i64_w,i32_w]
   rfl
   refine pA 14 7 48 255 ?_ HT_ (by kernel_rfl) rfl rfl (fun _ _ _ h=>h) (by rfl) ?_ ?_ ?_ ?_
   rotate_left
   intro w'
   go_simp
   with_reducible rfl
   rotate_left
   simp only [Act.put,s1,s2,s3,i64_w,i32_w]
   rfl
   refine pA 14 8 49 511 ?_ HT_ (by kernel_rfl) rfl rfl (fun _ _ _ h=>h) (by rfl) ?_ ?_ ?_ ?_
   rotate_left
   intro w'
   go_simp
   with_reducible rfl
   rotate_left
   simp only [Act.put,s1,s2,s3,i64_w,i32_w]
   rfl
   refine pT 14 9 50 1023 ?_ HT_ HW_ (by kernel_rfl) rfl rfl (fun _ _ _ h=>h) (by rfl) ?_ hHeld ?_ ?_ ?_
   rotate_left
   rintro w' ⟨_,_,_,_,_,_,_,_,_,_,_⟩
   go_simp
   with_reducible rfl
   rotate_left
   simp only [Act.put,s1,s2,s3,i64_w,i32_w]
   rfl
   refine pO 14 10 2047 (some 51) HT_ (by kernel_rfl) rfl rfl (by decide) (fun K hK=>?_)
   refine goes_ Try.func44 (by kernel_rfl) rfl #[.agg #[.slice (some ak) ai.length aG,.slice aC aw.length aH,.slice aK ao.length aI],.int .i64 ((rdQ ai ab).f1),.bool true] (by rfl) rfl rfl (by (try simp only [List.map_toArray,List.map_cons,List.map_nil]);(rfl)) ?_
   with_reducible refine (rffollow.calls k1 _ _ ai _ _ aw _ _ ao ((rdQ ai ab).f1) true cz _ ?aM ?aN ?aO ?aP ?aQ ?aR jj.out).mono ?_
   (case aM=>exact (Kd.C_below az.out HB.out))
   (case aN=>exact bm.out)
   (case aO=>exact (Kd.C_below bp.out HB.out))
   (case aP=>exact bn.out)
   (case aQ=>exact (Kd.C_below aU.out HB.out))
   (case aR=>exact bo.out)
   rintro e jL ⟨rfl,hb⟩
   refine ⟨_,rfl,?_⟩
   replace ac:=qB ac hb
   replace ag:=qB ag hb
   replace ae:=qB ae hb
   replace ad:=qb ad hb
   replace ah:=qb ah hb
   replace af:=qb af hb
   replace HB:=qs HB hb
   (try clear hb)
   have hO:0≤(ab:Int):=od
   have hS:(ab:Int) < ((aa.length:Int):Int):=od
   obtain ⟨bL,gz,eq,eu,gQ,jv,dV⟩:=Kd.R_form ac.out (by omega)
   (first | cases eq | (injection eq with ea_ en_ ec_;(fail);subst ec_;clear en_))
   have gn:=Aside0.mk eu
   have gs:=Aside0.mk dV
   clear eu gQ dV
   obtain ⟨jo,eG,ez,bT,bW⟩:=Kd.R_elem ac.out z35 (ab:Int) hO hS
   obtain rfl:=k35_openM ez
   have hA:World.cell? _ ⟨bL,(ab:Int).toNat*5,none⟩=some (.int .i64 ((rdQ aa ab).f0)):=bT 0 _ rfl
   have hB:World.cell? _ ⟨bL,(ab:Int).toNat*5+1,none⟩=some (.int .i64 ((rdQ aa ab).f1)):=bT 1 _ rfl
   have hC:World.cell? _ ⟨bL,(ab:Int).toNat*5+2,none⟩=some (.int .i64 ((rdQ aa ab).f2)):=bT 2 _ rfl
   have hD:World.cell? _ ⟨bL,(ab:Int).toNat*5+3,none⟩=some (.int .i64 ((rdQ aa ab).f3)):=bT 3 _ rfl
   have hE:World.cell? _ ⟨bL,(ab:Int).toNat*5+4,none⟩=some (.int .i64 ((rdQ aa ab).f4)):=bT 4 _ rfl
   have hc:World.frozen? _ ⟨bL,(ab:Int).toNat*5,none⟩=false:=bW 0
   have he:World.frozen? _ ⟨bL,(ab:Int).toNat*5+1,none⟩=false:=bW 1
   have hf:World.frozen? _ ⟨bL,(ab:Int).toNat*5+2,none⟩=false:=bW 2
   have hh:World.frozen? _ ⟨bL,(ab:Int).toNat*5+3,none⟩=false:=bW 3
   have hi:World.frozen? _ ⟨bL,(ab:Int).toNat*5+4,none⟩=false:=bW 4
   clear eG bT bW ez
   replace hO:=eq_true hO
   replace hS:=eq_true hS
   obtain ⟨jp,dm,eA,di,eK⟩:=Kd.R_elem ac.out z35 (ab:Int) od (by have h_:(ab:Int) < ((aa.length:Int):Int):=od;(exact h_))
   obtain rfl:=k35_openM eA
   have dv:=(Kd.R_seg ac.out (ab:Int) od (by have h_:(ab:Int) < ((aa.length:Int):Int):=od;(exact h_)) (seg:=[.int .i64 cz]) (j:=1) dm di (show 2≤5 from by decide) (x':=(⟨(rdQ aa ab).f0,cz,(rdQ aa ab).f2,(rdQ aa ab).f3,(rdQ aa ab).f4⟩:S35)) (k35_mkM _ _ _ (⟨(rdQ aa ab).f0,cz,(rdQ aa ab).f2,(rdQ aa ab).f3,(rdQ aa ab).f4⟩:S35) ) (fun _ hk=>hk)).1
   rw [← dZ.out] at dv
   have gv:=Aside0.mk dv
   clear dm di eK eA dv
   refine hK.out _ _ ⟨(bk_c af.out 0).trans rfl,(bk_c af.out 1).trans rfl,(bk_c af.out 2).trans rfl,(bk_c ad.out 0).trans rfl,(bk_c ad.out 1).trans rfl,(bk_c ad.out 2).trans rfl,((HB.out.cell (World.block_lt_of_cell? w _ bx)).trans bx),((HB.out.cell (World.block_lt_of_cell? w _ bz)).trans bz),((HB.out.cell (World.block_lt_of_cell? w _ bA)).trans bA),((HB.out.cell (World.block_lt_of_cell? w _ bB)).trans bB),((HB.out.cell (World.block_lt_of_cell? w _ bC)).trans bC)⟩ (fun hHeld=>?_)
   clear hK K
   refine norm_ (a':=?_) ?_ ?_
   rotate_left
   ·show Act.put _ (some 51) _=_
    simp only [Act.put,s1,s2,s3,i64_w,i32_w]
    rfl
   refine pA 14 11 52 4095 ?_ HT_ (by kernel_rfl) rfl rfl (fun _ _ _ h=>h) (by rfl) ?_ ?_ ?_ ?_
   rotate_left
   intro w'
   go_simp
   with_reducible rfl
   rotate_left
   simp only [Act.put,s1,s2,s3,i64_w,i32_w]
   rfl
   refine pA 14 12 53 8191 ?_ HT_ (by kernel_rfl) rfl rfl (fun _ _ _ h=>h) (by rfl) ?_ ?_ ?_ ?_
   rotate_left
   intro w'
   go_simp
   with_reducible rfl
   rotate_left
   simp only [Act.put,s1,s2,s3,i64_w,i32_w]
   rfl
   refine pL 14 13 16383 (none) HT_ (by kernel_rfl) rfl rfl (by decide) (fun K hK=>?_)
   refine skip_ (w1:=?_) (by rfl) rfl ?_ ?_
   rotate_left
   ·go_simp
    rfl
   refine hK.out _ _ ?_
   clear hK K
   refine done_ (done_of HT_.out (by kernel_rfl)) ?_
   try go_wp2
   go_roundg k1
   case measure=>have:=cC.out;omega
   case rel=>exact ⟨(wrap64 (ab+1)),(ib),(an),(.slice (some ⟨bL,0,none⟩) aa.length gz),(u450001),rfl,H',⟨by have:=cC.out;omega⟩,gv,zM ag (fun _ hk=>fun e_=>hk (by rw [e_];rfl)) kb1,zRm ae gs (by decide) kb1 (fun _ _=>trivial),zb ad (zn ac ad (by decide)) kb1,zb ah (zn ac ah (by decide)) kb1,zb af (zn ac af (by decide)) kb1,⟨by repeat ((with_reducible first | exact HB.out | refine b_st ?_ gn.out))⟩⟩
  rw [if_neg ei] at H
  obtain ⟨ej,ek⟩:=cBf ei
  by_cases el:((rdQ ai ab).f0)=4
  ·rw [if_pos el] at H
   obtain ⟨em,en⟩:=cBt el
   clear el
   replace H:=Option.bind_eq_some_iff.mp H
   obtain ⟨cA,dN,H⟩:=H
   try dsimp only at H
   have jk:=Aside0.mk dN
   clear dN
   replace H:=iNd H
   obtain ⟨im,H⟩:=H
   obtain ⟨ic,cw⟩:∃ y_:List (S35),y_=(aa.set (ab:Int).toNat (⟨(rdQ aa ab).f0,cA,(rdQ aa ab).f2,(rdQ aa ab).f3,(rdQ aa ab).f4⟩:S35)):=⟨_,rfl⟩
   rw [← cw] at H
   have ea:=Aside0.mk cw
   clear cw
   have H':=Aside0.mk H
   clear H
   have iA:=aq.out
   have iW:=ar.out
   have iB:=al.out
   have iX:=av.out
   refine qc3 ad fun fi fj fk fT fU fV=>?_
   obtain ⟨ak,ci,dy,dD,bY,bZ,ca,cb,cc⟩:=rd35 az HB ab
   cases ci
   try go_wp2
   replace ac:=qD ac
   replace ag:=qD ag
   replace ae:=qD ae
   replace ad:=qr ad
   replace ah:=qr ah
   replace af:=qr af
   replace HB:=qd HB
   have dB:0≤(ab:Int):=od
   have dG:ab < (ai.length:Int):=od
   obtain ⟨ee,gE,bf,bg,bh,bi,bj⟩:=at_T35 az.out ab dB dG
   have bH:=bj
   have bG:=bi
   have bF:=bh
   have bE:=bg
   have bD:=bf
   obtain rfl:ak=ee:=(by injection gE)
   replace bf:=(HB.out.cell (World.block_lt_of_cell? w _ bf)).trans bf
   replace bg:=(HB.out.cell (World.block_lt_of_cell? w _ bg)).trans bg
   replace bh:=(HB.out.cell (World.block_lt_of_cell? w _ bh)).trans bh
   replace bi:=(HB.out.cell (World.block_lt_of_cell? w _ bi)).trans bi
   replace bj:=(HB.out.cell (World.block_lt_of_cell? w _ bj)).trans bj
   replace dB:=eq_true dB
   replace dG:=eq_true dG
   refine start_ (n:=14) (S:=fun w'=>w'.cell? ⟨am,0,none⟩=some (u450000)∧w'.cell? ⟨am,1,none⟩=some (u450001)∧w'.cell? ⟨am,2,none⟩=some (.slice bO aA.length bQ)∧w'.cell? ⟨ay,0,none⟩=some (.slice (some ak) ai.length aG)∧w'.cell? ⟨ay,1,none⟩=some (.slice aC aw.length aH)∧w'.cell? ⟨ay,2,none⟩=some (.slice aK ao.length aI)∧w'.cell? (ak.add ((ab).toNat*5))=some (.int .i64 ((rdQ ai ab).f0))∧w'.cell? ⟨(ak.add ((ab).toNat*5)).block,(ak.add ((ab).toNat*5)).off+1,none⟩=some (.int .i64 ((rdQ ai ab).f1))∧w'.cell? ⟨(ak.add ((ab).toNat*5)).block,(ak.add ((ab).toNat*5)).off+2,none⟩=some (.int .i64 ((rdQ ai ab).f2))∧w'.cell? ⟨(ak.add ((ab).toNat*5)).block,(ak.add ((ab).toNat*5)).off+3,none⟩=some (.int .i64 ((rdQ ai ab).f3))∧w'.cell? ⟨(ak.add ((ab).toNat*5)).block,(ak.add ((ab).toNat*5)).off+4,none⟩=some (.int .i64 ((rdQ ai ab).f4))) (ds:=[13]) (fl 14 0) (by kernel_rfl) rfl rfl ⟨(bk_c af.out 0).trans rfl,(bk_c af.out 1).trans rfl,(bk_c af.out 2).trans rfl,(bk_c ad.out 0).trans rfl,(bk_c ad.out 1).trans rfl,(bk_c ad.out 2).trans rfl,((HB.out.cell (World.block_lt_of_cell? w _ bD)).trans bD),((HB.out.cell (World.block_lt_of_cell? w _ bE)).trans bE),((HB.out.cell (World.block_lt_of_cell? w _ bF)).trans bF),((HB.out.cell (World.block_lt_of_cell? w _ bG)).trans bG),((HB.out.cell (World.block_lt_of_cell? w _ bH)).trans bH)⟩ (fun hHeld=>?_);refine with_tabW rfThread.tab13 rfThread.bits13 (fun HT_ HW_=>?_)
   generalize wr.drew=jM at ac ag ae ad ah af HB bf bg bh bi bj hHeld ⊢
   refine pA 14 0 56 1 ?_ HT_ (by kernel_rfl) rfl rfl (fun _ _ _ h=>h) (by rfl) ?_ ?_ ?_ ?_
   rotate_left
   intro w'
   go_simp
   with_reducible rfl
   rotate_left
   simp only [Act.put,s1,s2,s3,i64_w,i32_w]
   rfl
   refine pA 14 2 58 5 ?_ HT_ (by kernel_rfl) rfl rfl (fun _ _ _ h=>h) (by rfl) ?_ ?_ ?_ ?_
   rotate_left
   intro w'
   go_simp
   with_reducible rfl
   rotate_left
   simp only [Act.put,s1,s2,s3,i64_w,i32_w]
   rfl
   refine pA 14 4 60 21 ?_ HT_ (by kernel_rfl) rfl rfl (fun _ _ _ h=>h) (by rfl) ?_ ?_ ?_ ?_
   rotate_left
   intro w'
   go_simp
   with_reducible rfl
   rotate_left
   simp only [Act.put,s1,s2,s3,i64_w,i32_w]
   rfl
   refine pA 14 6 62 85 ?_ HT_ (by kernel_rfl) rfl rfl (fun _ _ _ h=>h) (by rfl) ?_ ?_ ?_ ?_
   rotate_left
   intro w'
   go_simp
   with_reducible rfl
   rotate_left
   simp only [Act.put,s1,s2,s3,i64_w,i32_w]
   rfl
   refine pT 14 1 57 87 ?_ HT_ HW_ (by kernel_rfl) rfl rfl (fun _ _ _ h=>h) (by rfl) ?_ hHeld ?_ ?_ ?_
   rotate_left
   rintro w' ⟨_,_,_,_,_,_,_,_,_,_,_⟩
   go_simp
   with_reducible rfl
   rotate_left
   simp only [Act.put,s1,s2,s3,i64_w,i32_w]
   rfl
   refine pT 14 3 59 95 ?_ HT_ HW_ (by kernel_rfl) rfl rfl (fun _ _ _ h=>h) (by rfl) ?_ hHeld ?_ ?_ ?_
   rotate_left
   rintro w' ⟨_,_,_,_,_,_,_,_,_,_,_⟩
   go_simp
   with_reducible rfl
   rotate_left
   simp only [Act.put,s1,s2,s3,i64_w,i32_w]
   rfl
   refine pT 14 5 61 127 ?_ HT_ HW_ (by kernel_rfl) rfl rfl (fun _ _ _ h=>h) (by rfl) ?_ hHeld ?_ ?_ ?_
   rotate_left
   rintro w' ⟨_,_,_,_,_,_,_,_,_,_,_⟩
   go_simp
   with_reducible rfl
   rotate_left
   simp only [Act.put,s1,s2,s3,i64_w,i32_w]
   rfl
   refine pA 14 7 63 255 ?_ HT_ (by kernel_rfl) rfl rfl (fun _ _ _ h=>h) (by rfl) ?_ ?_ ?_ ?_
   rotate_left
   intro w'
   go_simp
   with_reducible rfl
   rotate_left
   simp only [Act.put,s1,s2,s3,i64_w,i32_w]
   rfl
   refine pA 14 8 64 511 ?_ HT_ (by kernel_rfl) rfl rfl (fun _ _ _ h=>h) (by rfl) ?_ ?_ ?_ ?_
   rotate_left
   intro w'
   go_simp
   with_reducible rfl
   rotate_left
   simp only [Act.put,s1,s2,s3,i64_w,i32_w]
   rfl
   refine pT 14 9 65 1023 ?_ HT_ HW_ (by kernel_rfl) rfl rfl (fun _ _ _ h=>h) (by rfl) ?_ hHeld ?_ ?_ ?_
   rotate_left
   rintro w' ⟨_,_,_,_,_,_,_,_,_,_,_⟩
   go_simp
   with_reducible rfl
   rotate_left
   simp only [Act.put,s1,s2,s3,i64_w,i32_w]
   rfl
   refine pO 14 10 2047 (some 66) HT_ (by kernel_rfl) rfl rfl (by decide) (fun K hK=>?_)
   refine goes_ Try.func44 (by kernel_rfl) rfl #[.agg #[.slice (some ak) ai.length aG,.slice aC aw.length aH,.slice aK ao.length aI],.int .i64 ((rdQ ai ab).f1),.bool false] (by rfl) rfl rfl (by (try simp only [List.map_toArray,List.map_cons,List.map_nil]);(rfl)) ?_
   with_reducible refine (rffollow.calls k1 _ _ ai _ _ aw _ _ ao ((rdQ ai ab).f1) false cA _ ?aM ?aN ?aO ?aP ?aQ ?aR jk.out).mono ?_
   (case aM=>exact (Kd.C_below az.out HB.out))
   (case aN=>exact bm.out)
   (case aO=>exact (Kd.C_below bp.out HB.out))
   (case aP=>exact bn.out)
   (case aQ=>exact (Kd.C_below aU.out HB.out))
   (case aR=>exact bo.out)
   rintro e jN ⟨rfl,hb⟩
   refine ⟨_,rfl,?_⟩
   replace ac:=qB ac hb
   replace ag:=qB ag hb
   replace ae:=qB ae hb
   replace ad:=qb ad hb
   replace ah:=qb ah hb
   replace af:=qb af hb
   replace HB:=qs HB hb
   (try clear hb)
   have hP:0≤(ab:Int):=od
   have hT:(ab:Int) < ((aa.length:Int):Int):=od
   obtain ⟨bM,gA,er,ev,gR,jw,dW⟩:=Kd.R_form ac.out (by omega)
   (first | cases er | (injection er with ea_ en_ ec_;(fail);subst ec_;clear en_))
   have gp:=Aside0.mk ev
   have gt:=Aside0.mk dW
   clear ev gR dW
   obtain ⟨jq,eH,eB,bU,bX⟩:=Kd.R_elem ac.out z35 (ab:Int) hP hT
   obtain rfl:=k35_openM eB
   have hF:World.cell? _ ⟨bM,(ab:Int).toNat*5,none⟩=some (.int .i64 ((rdQ aa ab).f0)):=bU 0 _ rfl
   have hG:World.cell? _ ⟨bM,(ab:Int).toNat*5+1,none⟩=some (.int .i64 ((rdQ aa ab).f1)):=bU 1 _ rfl
   have hH:World.cell? _ ⟨bM,(ab:Int).toNat*5+2,none⟩=some (.int .i64 ((rdQ aa ab).f2)):=bU 2 _ rfl
   have hI:World.cell? _ ⟨bM,(ab:Int).toNat*5+3,none⟩=some (.int .i64 ((rdQ aa ab).f3)):=bU 3 _ rfl
   have hJ:World.cell? _ ⟨bM,(ab:Int).toNat*5+4,none⟩=some (.int .i64 ((rdQ aa ab).f4)):=bU 4 _ rfl
   have hj:World.frozen? _ ⟨bM,(ab:Int).toNat*5,none⟩=false:=bX 0
   have hl:World.frozen? _ ⟨bM,(ab:Int).toNat*5+1,none⟩=false:=bX 1
   have hm:World.frozen? _ ⟨bM,(ab:Int).toNat*5+2,none⟩=false:=bX 2
   have hn:World.frozen? _ ⟨bM,(ab:Int).toNat*5+3,none⟩=false:=bX 3
   have ho:World.frozen? _ ⟨bM,(ab:Int).toNat*5+4,none⟩=false:=bX 4
   clear eH bU bX eB
   replace hP:=eq_true hP
   replace hT:=eq_true hT
   obtain ⟨jr,dn,eC,dj,eL⟩:=Kd.R_elem ac.out z35 (ab:Int) od (by have h_:(ab:Int) < ((aa.length:Int):Int):=od;(exact h_))
   obtain rfl:=k35_openM eC
   have dw:=(Kd.R_seg ac.out (ab:Int) od (by have h_:(ab:Int) < ((aa.length:Int):Int):=od;(exact h_)) (seg:=[.int .i64 cA]) (j:=1) dn dj (show 2≤5 from by decide) (x':=(⟨(rdQ aa ab).f0,cA,(rdQ aa ab).f2,(rdQ aa ab).f3,(rdQ aa ab).f4⟩:S35)) (k35_mkM _ _ _ (⟨(rdQ aa ab).f0,cA,(rdQ aa ab).f2,(rdQ aa ab).f3,(rdQ aa ab).f4⟩:S35) ) (fun _ hk=>hk)).1
   rw [← ea.out] at dw
   have gw:=Aside0.mk dw
   clear dn dj eL eC dw
   refine hK.out _ _ ⟨(bk_c af.out 0).trans rfl,(bk_c af.out 1).trans rfl,(bk_c af.out 2).trans rfl,(bk_c ad.out 0).trans rfl,(bk_c ad.out 1).trans rfl,(bk_c ad.out 2).trans rfl,((HB.out.cell (World.block_lt_of_cell? w _ bD)).trans bD),((HB.out.cell (World.block_lt_of_cell? w _ bE)).trans bE),((HB.out.cell (World.block_lt_of_cell? w _ bF)).trans bF),((HB.out.cell (World.block_lt_of_cell? w _ bG)).trans bG),((HB.out.cell (World.block_lt_of_cell? w _ bH)).trans bH)⟩ (fun hHeld=>?_)
   clear hK K
   refine norm_ (a':=?_) ?_ ?_
   rotate_left
   ·show Act.put _ (some 66) _=_
    simp only [Act.put,s1,s2,s3,i64_w,i32_w]
    rfl
   refine pA 14 11 67 4095 ?_ HT_ (by kernel_rfl) rfl rfl (fun _ _ _ h=>h) (by rfl) ?_ ?_ ?_ ?_
   rotate_left
   intro w'
   go_simp
   with_reducible rfl
   rotate_left
   simp only [Act.put,s1,s2,s3,i64_w,i32_w]
   rfl
   refine pA 14 12 68 8191 ?_ HT_ (by kernel_rfl) rfl rfl (fun _ _ _ h=>h) (by rfl) ?_ ?_ ?_ ?_
   rotate_left
   intro w'
   go_simp
   with_reducible rfl
   rotate_left
   simp only [Act.put,s1,s2,s3,i64_w,i32_w]
   rfl
   refine pL 14 13 16383 (none) HT_ (by kernel_rfl) rfl rfl (by decide) (fun K hK=>?_)
   refine skip_ (w1:=?_) (by rfl) rfl ?_ ?_
   rotate_left
   ·go_simp
    rfl
   refine hK.out _ _ ?_
   clear hK K
   refine done_ (done_of HT_.out (by kernel_rfl)) ?_
   try go_wp2
   go_roundg k1
   case measure=>have:=cC.out;omega
   case rel=>exact ⟨(wrap64 (ab+1)),(ic),(an),(.slice (some ⟨bM,0,none⟩) aa.length gA),(u450001),rfl,H',⟨by have:=cC.out;omega⟩,gw,zM ag (fun _ hk=>fun e_=>hk (by rw [e_];rfl)) kb1,zRm ae gt (by decide) kb1 (fun _ _=>trivial),zb ad (zn ac ad (by decide)) kb1,zb ah (zn ac ah (by decide)) kb1,zb af (zn ac af (by decide)) kb1,⟨by repeat ((with_reducible first | exact HB.out | refine b_st ?_ gp.out))⟩⟩
  rw [if_neg el] at H
  obtain ⟨em,en⟩:=cBf el
  have H':=Aside0.mk H
  clear H
  have iC:=aq.out
  have iY:=ar.out
  have iD:=al.out
  have iZ:=av.out
  refine qc3 ad fun fm fn fo fW fX fY=>?_
  obtain ⟨ak,ci,dy,dD,bY,bZ,ca,cb,cc⟩:=rd35 az HB ab
  cases ci
  go_wp2
  go_roundg k1
  case measure=>have:=cC.out;omega
  case rel=>exact ⟨(wrap64 (ab+1)),(aa),(an),(u450000),(u450001),rfl,H',⟨by have:=cC.out;omega⟩,ac,ag,ae,ad,ah,af,HB⟩
 rw [if_neg dJ] at H
 have dd:=decide_eq_false dJ
 clear dJ
 have H':=Aside0.mk H
 clear H
 have iE:=aq.out
 have ja:=ar.out
 have iG:=al.out
 have jb:=av.out
 refine qc3 ad fun cO cP cQ da db dc=>?_
 go_wp2
 go_loopg [5] k1 (fun kq v5 w'=>∃ (ax:Int) (aj:List (S37)) (u450002:Value),v5=.int .i64 ax∧Aside0 (rfThread.l1 kq ax ai aw ao aa an aj=some (r1,r2,r3))∧Aside0 (kq≤k1)∧Aside0 (Kd.R k35 35 w' w.heap.size (fun k_=>some k_≠(u450001:Value).ownBlock) u450000 aa)∧Aside0 (Kd.R k35 35 w' w.heap.size (fun k_=>some k_≠(u450000:Value).ownBlock) u450001 an)∧Aside0 (Kd.R k37 37 w' w.heap.size (fun _=>True) u450002 aj)∧Aside0 (w'.heap[ay]?=some (.cells #[(.slice aS ai.length aG),(.slice aC aw.length aH),(.slice aK ao.length aI)] 30 (0,0)))∧Aside0 (w'.heap[ap]?=some (.cells #[(.slice none 0 0),(.slice none 0 0),(.slice none 0 0)] 30 (0,0)))∧Aside0 (w'.heap[am]?=some (.cells #[u450000,u450001,u450002] 30 (0,0)))∧Aside0 (Below w.heap.size w w'))
 case atStart=>exact ⟨(0),(aA),(.slice bO aA.length bQ),rfl,H',⟨Nat.le_refl _⟩,ac,ag,ae,ad,ah,af,HB⟩
 clear H'
 clear dd cO cP cQ da db dc
 obtain ⟨ax,aj,u450002,rfl,HA,ii,ac,ag,ae,ad,ah,af,HB⟩:=hrel
 obtain _ | k2:=gk
 ·exact absurd HA.out (by simp [rfThread.l1])
 have H:=HA.out
 clear HA
 simp only [rfThread.l1] at H
 by_cases dK:ax < (ao.length:Int)
 ·rw [if_pos dK] at H
  have eo:=decide_eq_true dK
  clear dK
  replace H:=iNd H
  obtain ⟨io,H⟩:=H
  replace H:=Option.bind_eq_some_iff.mp H
  obtain ⟨cB,dO,H⟩:=H
  try dsimp only at H
  have jl:=Aside0.mk dO
  clear dO
  replace H:=iNd H
  obtain ⟨ip,H⟩:=H
  obtain ⟨ie,cx⟩:∃ y_:List (S37),y_=(aj.set (ax:Int).toNat (⟨(rdR aj ax).f0,cB⟩:S37)):=⟨_,rfl⟩
  rw [← cx] at H
  have eb:=Aside0.mk cx
  clear cx
  have H':=Aside0.mk H
  clear H
  have iH:=aq.out
  have jc:=ar.out
  have iI:=al.out
  have jd:=av.out
  refine qc3 ad fun fp fq fr fZ ga gb=>?_
  try go_wp2
  replace ac:=qD ac
  replace ag:=qD ag
  replace ae:=qD ae
  replace ad:=qr ad
  replace ah:=qr ah
  replace af:=qr af
  replace HB:=qd HB
  have dC:0≤(ax:Int):=od
  have dH:ax < (ao.length:Int):=od
  obtain ⟨ce,gF,bk,bl⟩:=at_T37 aU.out ax dC dH
  have bJ:=bl
  have bI:=bk
  cases gF
  replace bk:=(HB.out.cell (World.block_lt_of_cell? w _ bk)).trans bk
  replace bl:=(HB.out.cell (World.block_lt_of_cell? w _ bl)).trans bl
  replace dC:=eq_true dC
  replace dH:=eq_true dH
  refine start_ (n:=14) (S:=fun w'=>w'.cell? ⟨am,0,none⟩=some (u450000)∧w'.cell? ⟨am,1,none⟩=some (u450001)∧w'.cell? ⟨am,2,none⟩=some (u450002)∧w'.cell? ⟨ay,0,none⟩=some (.slice aS ai.length aG)∧w'.cell? ⟨ay,1,none⟩=some (.slice aC aw.length aH)∧w'.cell? ⟨ay,2,none⟩=some (.slice (some ce) ao.length aI)∧w'.cell? (ce.add ((ax).toNat*2))=some (.int .i64 ((rdR ao ax).f0))∧w'.cell? ⟨(ce.add ((ax).toNat*2)).block,(ce.add ((ax).toNat*2)).off+1,none⟩=some (.int .i64 ((rdR ao ax).f1))) (ds:=[13]) (fl 14 0) (by kernel_rfl) rfl rfl ⟨(bk_c af.out 0).trans rfl,(bk_c af.out 1).trans rfl,(bk_c af.out 2).trans rfl,(bk_c ad.out 0).trans rfl,(bk_c ad.out 1).trans rfl,(bk_c ad.out 2).trans rfl,((HB.out.cell (World.block_lt_of_cell? w _ bI)).trans bI),((HB.out.cell (World.block_lt_of_cell? w _ bJ)).trans bJ)⟩ (fun hHeld=>?_);refine with_tabW rfThread.tab17 rfThread.bits17 (fun HT_ HW_=>?_)
  generalize wr.drew=jO at ac ag ae ad ah af HB bk bl hHeld ⊢
  refine pA 14 0 76 1 ?_ HT_ (by kernel_rfl) rfl rfl (fun _ _ _ h=>h) (by rfl) ?_ ?_ ?_ ?_
  rotate_left
  intro w'
  go_simp
  with_reducible rfl
  rotate_left
  simp only [Act.put,s1,s2,s3,i64_w,i32_w]
  rfl
  refine pA 14 2 78 5 ?_ HT_ (by kernel_rfl) rfl rfl (fun _ _ _ h=>h) (by rfl) ?_ ?_ ?_ ?_
  rotate_left
  intro w'
  go_simp
  with_reducible rfl
  rotate_left
  simp only [Act.put,s1,s2,s3,i64_w,i32_w]
  rfl
  refine pA 14 4 80 21 ?_ HT_ (by kernel_rfl) rfl rfl (fun _ _ _ h=>h) (by rfl) ?_ ?_ ?_ ?_
  rotate_left
  intro w'
  go_simp
  with_reducible rfl
  rotate_left
  simp only [Act.put,s1,s2,s3,i64_w,i32_w]
  rfl
  refine pA 14 6 82 85 ?_ HT_ (by kernel_rfl) rfl rfl (fun _ _ _ h=>h) (by rfl) ?_ ?_ ?_ ?_
  rotate_left
  intro w'
  go_simp
  with_reducible rfl
  rotate_left
  simp only [Act.put,s1,s2,s3,i64_w,i32_w]
  rfl
  refine pT 14 1 77 87 ?_ HT_ HW_ (by kernel_rfl) rfl rfl (fun _ _ _ h=>h) (by rfl) ?_ hHeld ?_ ?_ ?_
  rotate_left
  rintro w' ⟨_,_,_,_,_,_,_,_⟩
  go_simp
  with_reducible rfl
  rotate_left
  simp only [Act.put,s1,s2,s3,i64_w,i32_w]
  rfl
  refine pT 14 3 79 95 ?_ HT_ HW_ (by kernel_rfl) rfl rfl (fun _ _ _ h=>h) (by rfl) ?_ hHeld ?_ ?_ ?_
  rotate_left
  rintro w' ⟨_,_,_,_,_,_,_,_⟩
  go_simp
  with_reducible rfl
  rotate_left
  simp only [Act.put,s1,s2,s3,i64_w,i32_w]
  rfl
  refine pT 14 5 81 127 ?_ HT_ HW_ (by kernel_rfl) rfl rfl (fun _ _ _ h=>h) (by rfl) ?_ hHeld ?_ ?_ ?_
  rotate_left
  rintro w' ⟨_,_,_,_,_,_,_,_⟩
  go_simp
  with_reducible rfl
  rotate_left
  simp only [Act.put,s1,s2,s3,i64_w,i32_w]
  rfl
  refine pA 14 7 83 255 ?_ HT_ (by kernel_rfl) rfl rfl (fun _ _ _ h=>h) (by rfl) ?_ ?_ ?_ ?_
  rotate_left
  intro w'
  go_simp
  with_reducible rfl
  rotate_left
  simp only [Act.put,s1,s2,s3,i64_w,i32_w]
  rfl
  refine pA 14 8 84 511 ?_ HT_ (by kernel_rfl) rfl rfl (fun _ _ _ h=>h) (by rfl) ?_ ?_ ?_ ?_
  rotate_left
  intro w'
  go_simp
  with_reducible rfl
  rotate_left
  simp only [Act.put,s1,s2,s3,i64_w,i32_w]
  rfl
  refine pT 14 9 85 1023 ?_ HT_ HW_ (by kernel_rfl) rfl rfl (fun _ _ _ h=>h) (by rfl) ?_ hHeld ?_ ?_ ?_
  rotate_left
  rintro w' ⟨_,_,_,_,_,_,_,_⟩
  go_simp
  with_reducible rfl
  rotate_left
  simp only [Act.put,s1,s2,s3,i64_w,i32_w]
  rfl
  refine pO 14 10 2047 (some 86) HT_ (by kernel_rfl) rfl rfl (by decide) (fun K hK=>?_)
  refine goes_ Try.func44 (by kernel_rfl) rfl #[.agg #[.slice aS ai.length aG,.slice aC aw.length aH,.slice (some ce) ao.length aI],.int .i64 ((rdR ao ax).f1),.bool true] (by rfl) rfl rfl (by (try simp only [List.map_toArray,List.map_cons,List.map_nil]);(rfl)) ?_
  with_reducible refine (rffollow.calls k2 _ _ ai _ _ aw _ _ ao ((rdR ao ax).f1) true cB _ ?aM ?aN ?aO ?aP ?aQ ?aR jl.out).mono ?_
  (case aM=>exact (Kd.C_below az.out HB.out))
  (case aN=>exact bm.out)
  (case aO=>exact (Kd.C_below bp.out HB.out))
  (case aP=>exact bn.out)
  (case aQ=>exact (Kd.C_below aU.out HB.out))
  (case aR=>exact bo.out)
  rintro e jP ⟨rfl,hb⟩
  refine ⟨_,rfl,?_⟩
  replace ac:=qB ac hb
  replace ag:=qB ag hb
  replace ae:=qB ae hb
  replace ad:=qb ad hb
  replace ah:=qb ah hb
  replace af:=qb af hb
  replace HB:=qs HB hb
  (try clear hb)
  have hQ:0≤(ax:Int):=od
  have hU:(ax:Int) < ((aj.length:Int):Int):=od
  obtain ⟨cq,gB,es,ew,gS,jx,dX⟩:=Kd.R_form ae.out (by omega)
  (first | cases es | (injection es with ea_ en_ ec_;(fail);subst ec_;clear en_))
  have gq:=Aside0.mk ew
  have dQ:=Aside0.mk dX
  clear ew gS dX
  obtain ⟨js,eI,eD,cr,ct⟩:=Kd.R_elem ae.out z37 (ax:Int) hQ hU
  obtain rfl:=k37_openM eD
  have hL:World.cell? _ ⟨cq,(ax:Int).toNat*2,none⟩=some (.int .i64 ((rdR aj ax).f0)):=cr 0 _ rfl
  have hM:World.cell? _ ⟨cq,(ax:Int).toNat*2+1,none⟩=some (.int .i64 ((rdR aj ax).f1)):=cr 1 _ rfl
  have hp:World.frozen? _ ⟨cq,(ax:Int).toNat*2,none⟩=false:=ct 0
  have hq:World.frozen? _ ⟨cq,(ax:Int).toNat*2+1,none⟩=false:=ct 1
  clear eI cr ct eD
  replace hQ:=eq_true hQ
  replace hU:=eq_true hU
  obtain ⟨jt,dp,eE,dk,eM⟩:=Kd.R_elem ae.out z37 (ax:Int) od (by have h_:(ax:Int) < ((aj.length:Int):Int):=od;(exact h_))
  obtain rfl:=k37_openM eE
  have dx:=(Kd.R_seg ae.out (ax:Int) od (by have h_:(ax:Int) < ((aj.length:Int):Int):=od;(exact h_)) (seg:=[.int .i64 cB]) (j:=1) dp dk (show 2≤2 from by decide) (x':=(⟨(rdR aj ax).f0,cB⟩:S37)) (k37_mkM _ _ _ (⟨(rdR aj ax).f0,cB⟩:S37) ) (fun _ hk=>hk)).1
  rw [← eb.out] at dx
  have gx:=Aside0.mk dx
  clear dp dk eM eE dx
  refine hK.out _ _ ⟨(bk_c af.out 0).trans rfl,(bk_c af.out 1).trans rfl,(bk_c af.out 2).trans rfl,(bk_c ad.out 0).trans rfl,(bk_c ad.out 1).trans rfl,(bk_c ad.out 2).trans rfl,((HB.out.cell (World.block_lt_of_cell? w _ bI)).trans bI),((HB.out.cell (World.block_lt_of_cell? w _ bJ)).trans bJ)⟩ (fun hHeld=>?_)
  clear hK K
  refine norm_ (a':=?_) ?_ ?_
  rotate_left
  ·show Act.put _ (some 86) _=_
   simp only [Act.put,s1,s2,s3,i64_w,i32_w]
   rfl
  refine pA 14 11 87 4095 ?_ HT_ (by kernel_rfl) rfl rfl (fun _ _ _ h=>h) (by rfl) ?_ ?_ ?_ ?_
  rotate_left
  intro w'
  go_simp
  with_reducible rfl
  rotate_left
  simp only [Act.put,s1,s2,s3,i64_w,i32_w]
  rfl
  refine pA 14 12 88 8191 ?_ HT_ (by kernel_rfl) rfl rfl (fun _ _ _ h=>h) (by rfl) ?_ ?_ ?_ ?_
  rotate_left
  intro w'
  go_simp
  with_reducible rfl
  rotate_left
  simp only [Act.put,s1,s2,s3,i64_w,i32_w]
  rfl
  refine pL 14 13 16383 (none) HT_ (by kernel_rfl) rfl rfl (by decide) (fun K hK=>?_)
  refine skip_ (w1:=?_) (by rfl) rfl ?_ ?_
  rotate_left
  ·go_simp
   rfl
  refine hK.out _ _ ?_
  clear hK K
  refine done_ (done_of HT_.out (by kernel_rfl)) ?_
  try go_wp2
  go_roundg k2
  case measure=>have:=cC.out;have:=ii.out;omega
  case rel=>exact ⟨(wrap64 (ax+1)),(ie),(.slice (some ⟨cq,0,none⟩) aj.length gB),rfl,H',⟨by have:=cC.out;have:=ii.out;omega⟩,zR ac dQ (by decide) kb1,zR ag dQ (by decide) kb1,gx,zb ad (zn ae ad (by decide)) kb1,zb ah (zn ae ah (by decide)) kb1,zb af (zn ae af (by decide)) kb1,⟨by repeat ((with_reducible first | exact HB.out | refine b_st ?_ gq.out))⟩⟩
 rw [if_neg dK] at H
 have eo:=decide_eq_false dK
 clear dK
 simp only [Option.some.injEq,Prod.mk.injEq] at H
 obtain ⟨rfl,rfl,rfl⟩:=H
 have iJ:=aq.out
 have je:=ar.out
 have iK:=al.out
 have jf:=av.out
 refine qc3 ad fun fs ft fu gc gd ge=>?_
 have iL:=aL.out
 have jg:=au.out
 refine qc3 af fun fv fw fx gf gg gh=>?_
 obtain ⟨ck,cm,gM⟩:=Kd.R_slice ac.out
 subst gM
 refine qc3 ah fun fy fz fA gi gj gl=>?_
 obtain ⟨cn,cp,gN⟩:=Kd.R_slice ag.out
 subst gN
 obtain ⟨cD,cE,gO⟩:=Kd.R_slice ae.out
 subst gO
 go_wp2
 refine bodyPost_ret (results_cell_row rfl _ _ ap 30 #[.slice ck aa.length cm,.slice cn an.length cp,.slice cD aj.length cE] (0,0) _ rfl (by refine blk_put (cs:=#[.slice ck aa.length cm,.slice cn an.length cp,.slice none 0 0]) ?_ 2 _ rfl;refine blk_put (cs:=#[.slice ck aa.length cm,.slice none 0 0,.slice none 0 0]) ?_ 1 _ rfl;refine blk_put (cs:=#[.slice none 0 0,.slice none 0 0,.slice none 0 0]) ?_ 0 _ rfl;exact ah.out) Try.underlying30 rfl (by kernel_rfl)) rfl ?_
 exact ⟨_,_,_,by (rfl),by exact Kd.R_mono (Kd.R_far (p:=⟨ap,2,none⟩) (Kd.R_far (p:=⟨ap,1,none⟩) (Kd.R_far (p:=⟨ap,0,none⟩) (Kd.R_types ac.out ah.out (by decide)) (fun _ hk=>hk.2) (.slice ck aa.length cm)) (fun _ hk=>hk.2) (.slice cn an.length cp)) (fun _ hk=>hk.2) (.slice cD aj.length cE)) (fun _ hk=>hk.1),by exact Kd.R_mono (Kd.R_far (p:=⟨ap,2,none⟩) (Kd.R_far (p:=⟨ap,1,none⟩) (Kd.R_far (p:=⟨ap,0,none⟩) (Kd.R_types ag.out ah.out (by decide)) (fun _ hk=>hk.2) (.slice ck aa.length cm)) (fun _ hk=>hk.2) (.slice cn an.length cp)) (fun _ hk=>hk.2) (.slice cD aj.length cE)) (fun _ hk=>hk.1),by exact Kd.R_mono (Kd.R_far (p:=⟨ap,2,none⟩) (Kd.R_far (p:=⟨ap,1,none⟩) (Kd.R_far (p:=⟨ap,0,none⟩) (Kd.R_types ae.out ah.out (by decide)) (fun _ hk=>hk.2) (.slice ck aa.length cm)) (fun _ hk=>hk.2) (.slice cn an.length cp)) (fun _ hk=>hk.2) (.slice cD aj.length cE)) (fun _ hk=>trivial),by repeat ((with_reducible first | exact HB.out | refine b_st ?_ co.out))⟩
def rfall.l0:Nat→Int→List Bool→Int→Option (List Bool)
  | 0,_,_,_=>none
  | k+1,x0,x3,x4=>if x4 < x0 then (if 0≤x4 then (if x4 < (x3.length:Int) then (rfall.l0 k x0 (x3.set (x4:Int).toNat true) (wrap64 (x4+1))) else (none)) else (none)) else (some x3)
def rfall.f (k:Nat) (a0:Int):Option (List Bool):=if 0≤a0 then (if (a0:Int).toNat≤281474976710656 then (rfall.l0 k a0 (List.replicate (a0:Int).toNat false) 0) else (none)) else (none)
theorem rfall.mono_l:∀ k,(∀ y0 y1 y2,LeO (rfall.l0 k y0 y1 y2) (rfall.l0 (k+1) y0 y1 y2))
  | 0=>fun _ _ _ r h=>by simp [rfall.l0] at h
  | k+1=>by
    have ih0:=rfall.mono_l k
    · intro y0 y1 y2
      unfold rfall.l0
      repeat' first | (with_reducible exact ih0 _ _ _) | (with_reducible exact LeO.refl _) | (with_reducible refine LeO.ite ?_ ?_)
theorem rfall.mono:∀ a0 k,LeO (rfall.f k a0) (rfall.f (k+1) a0):=by
  intro a0 k
  have ih0:=rfall.mono_l k
  unfold rfall.f
  repeat' first | (with_reducible exact ih0 _ _ _) | (with_reducible exact LeO.refl _) | (with_reducible refine LeO.ite ?_ ?_)
set_option maxHeartbeats 8000000 in
set_option maxRecDepth 100000 in
theorem rfall.calls (k:Nat) (a0:Int) (r:List Bool) (w:World) (h:rfall.f k a0=some r) :
    Calls Try.prog 40 #[.int .i64 a0] w fun e w'=>∃ aC:Value,e=.returned (aC)∧Kd.R Kd.bool 4 w' w.heap.size (fun _=>True) aC r∧Below w.heap.size w w':=by
 have HB:=Aside0.mk (Below.refl w.heap.size w)
 have H:(if 0≤a0 then (if (a0:Int).toNat≤281474976710656 then (rfall.l0 k a0 (List.replicate (a0:Int).toNat false) 0) else (none)) else (none))=some r:=h
 clear h
 replace H:=iNB H
 obtain ⟨al,am,H⟩:=H
 replace H:=iNB H
 obtain ⟨an,ao,H⟩:=H
 obtain ⟨aw,ad⟩:∃ y_:List Bool,y_=(List.replicate (a0:Int).toNat false):=⟨_,rfl⟩
 rw [← ad] at H
 have ah:=Aside0.mk ad
 clear ad
 have H':=Aside0.mk H
 clear H
 go_enter Try.func40,Try.ntmps40
 go_wp2_with (((with_reducible refine gate_dst (N:=6) rfl ?_);refine Kd.R_make Kd.bool _ 4 rfl (N:=6) rfl 55 _ _ rfl a0 rfl rfl Try.underlying55 (.bool false) 1 info4 rfl (by decide) (by omega) false (ok:=fun _=>True) (okp:=fun _=>True) rfl (fun _ hk=>hk) trivial od (Nat.le_trans (Nat.mul_le_mul_right _ (od:a0.toNat≤281474976710656)) (by omega)) (Below.refl _ _) (Nat.le_refl _) ?_;intro au w4 ar hb hg_ hnew_;clear hg_ hnew_;(rw [← ah.out] at ar);have ag:=ql ar HB;replace HB:=qs HB hb;clear hb ar))
 go_loopg [4] k (fun kq v4 w'=>∃ (ac:List Bool) (aa:Int),v4=.int .i64 aa∧Aside0 (rfall.l0 kq a0 ac aa=some r)∧Aside0 (kq≤k)∧Aside0 (Kd.R Kd.bool 4 w' w.heap.size (fun _=>True) au ac)∧Aside0 (Below w.heap.size w w'))
 case atStart=>exact ⟨(aw),(0),rfl,H',⟨Nat.le_refl _⟩,ag,HB⟩
 clear H'
 clear al am an ao
 obtain ⟨ac,aa,rfl,HA,ax,ab,HB⟩:=hrel
 obtain _ | k1:=gk
 ·exact absurd HA.out (by simp [rfall.l0])
 have H:=HA.out
 clear HA
 simp only [rfall.l0] at H
 by_cases c6:aa < a0
 ·rw [if_pos c6] at H
  have ap:=decide_eq_true c6
  clear c6
  replace H:=iNd H
  obtain ⟨aF,H⟩:=H
  replace H:=iNd H
  obtain ⟨aG,H⟩:=H
  obtain ⟨aj,ae⟩:∃ y_:List Bool,y_=(ac.set (aa:Int).toNat true):=⟨_,rfl⟩
  rw [← ae] at H
  have ai:=Aside0.mk ae
  clear ae
  have H':=Aside0.mk H
  clear H
  have p9:0≤(aa:Int):=od
  have q9:(aa:Int) < ((ac.length:Int):Int):=od
  obtain ⟨aq,aH,ay,az,aI,aJ,aE⟩:=Kd.R_form ab.out (by omega)
  (first | cases ay | (injection ay with ea_ en_ ec_;(fail);subst ec_;clear en_))
  have aD:=Aside0.mk az
  clear az aI aE
  obtain ⟨aB,aA⟩:=Kd.R_celln false ab.out (aa:Int) p9 q9
  replace p9:=eq_true p9
  replace q9:=eq_true q9
  have af:=Kd.R_putg ab.out (aa:Int) true
  go_wp2_with (((with_reducible refine gate_store (t:=4) (p:=14) rfl ?_);refine store_event (t:=4) (p:=14) (v:=?ak) (w1:=(wr.setCell ⟨aq,(aa:Int).toNat,none⟩ (.bool true))) ?hg ?ho ?hn ?hr ?_;(case ho=>rfl);(case hg=>rfl);(case hn=>rfl);(case hr=>(go_simp;done));intro av hw;have hg:wr.grownBy av (some aq):=(by rw [hw];exact af.2);have hp_:Kd.R Kd.bool 4 av w.heap.size (fun _=>True) (.slice (some ⟨aq,0,none⟩) ac.length aH) aj:=(by rw [hw,ai.out];exact af.1);clear af;replace ab:=Aside0.mk hp_;replace HB:=Aside0.mk ((by rw [hw];exact b_st (HB.out) aD.out:Below w.heap.size w av));clear hg hw hp_))
  go_roundg k1
  case measure=>have:=ax.out;omega
  case rel=>exact ⟨(aj),(wrap64 (aa+1)),rfl,H',⟨by have:=ax.out;omega⟩,ab,HB⟩
 rw [if_neg c6] at H
 have ap:=decide_eq_false c6
 clear c6
 obtain rfl:=Option.some.inj H
 go_wp2
 go_ret
 exact ⟨_,by (rfl),by exact ab.out,HB.out⟩
end Go.Proofs.Ytedghbjmhcgilaa.POpt
end
