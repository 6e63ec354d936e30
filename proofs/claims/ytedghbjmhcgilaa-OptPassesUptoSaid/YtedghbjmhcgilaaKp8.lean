import Derived.Test.YtedghbjmhcgilaaKp5
set_option linter.unusedVariables false
set_option linter.unusedSimpArgs false
section
namespace Go.Proofs.Ytedghbjmhcgilaa.POpt
open Go.RowKit Go.Proofs.YtedghbjmhcgilaaW.PrintWords Go.Proofs.YtedghbjmhcgilaaW.PrintLast Go.Proofs.YtedghbjmhcgilaaW.PrintMore
mutual
def rfwithout.l0:Nat→List Bool→List Bool→List Int→Int→List (S35)→List (S35)→List (S37)→List (S35)→Option ((List (S35)) × (List (S35)) × (List (S37)))
  | 0,_,_,_,_,_,_,_,_=>none
  | k+1,x1,x2,x8,x9,x320000,x320001,x320002,x322000=>if x9 < (x320000.length:Int) then (if 0≤x9 then (if x9 < (x8.length:Int) then ((some (x8.set (x9:Int).toNat (x322000.length:Int):List Int)).bind fun y325=>(if x9 < (x1.length:Int) then (if rdOf false x1 x9=true then (if x322000.length < 3518437208883 then (rfwithout.l0 k x1 x2 y325 (wrap64 (x9+1)) x320000 x320001 x320002 (x322000 ++ [(⟨(rdQ x320000 x9).f0,(rdQ x320000 x9).f1,(rdQ x320000 x9).f2,(rdQ x320000 x9).f3,(rdQ x320000 x9).f4⟩:S35)])) else (none)) else (rfwithout.l0 k x1 x2 y325 (wrap64 (x9+1)) x320000 x320001 x320002 x322000)) else (none))) else (none)) else (none)) else (if 0≤(wrap64 ((x320001.length:Int)+1)) then (if (wrap64 ((x320001.length:Int)+1):Int).toNat≤35184372088832 then (rfwithout.l1 k x2 x8 (List.replicate (wrap64 ((x320001.length:Int)+1):Int).toNat 0) 0 x320000 x320001 x320002 x322000 ([]:List (S35))) else (none)) else (none))
def rfwithout.l1:Nat→List Bool→List Int→List Int→Int→List (S35)→List (S35)→List (S37)→List (S35)→List (S35)→Option ((List (S35)) × (List (S35)) × (List (S37)))
  | 0,_,_,_,_,_,_,_,_,_=>none
  | k+1,x2,x8,x10,x11,x320000,x320001,x320002,x322000,x322001=>if x11 < (x320001.length:Int) then (if 0≤x11 then (if x11 < (x10.length:Int) then ((some (x10.set (x11:Int).toNat (x322001.length:Int):List Int)).bind fun y334=>(if x11 < (x2.length:Int) then (if rdOf false x2 x11=true then (if x322001.length < 3518437208883 then (rfwithout.l1 k x2 x8 y334 (wrap64 (x11+1)) x320000 x320001 x320002 x322000 (x322001 ++ [(⟨(rdQ x320001 x11).f0,(rdQ x320001 x11).f1,(rdQ x320001 x11).f2,(rdQ x320001 x11).f3,(rdQ x320001 x11).f4⟩:S35)])) else (none)) else (rfwithout.l1 k x2 x8 y334 (wrap64 (x11+1)) x320000 x320001 x320002 x322000 x322001)) else (none))) else (none)) else (none)) else (rfwithout.l2 k x8 x10 0 x320000 x320001 x320002 x322000 x322001)
def rfwithout.l2:Nat→List Int→List Int→Int→List (S35)→List (S35)→List (S37)→List (S35)→List (S35)→Option ((List (S35)) × (List (S35)) × (List (S37)))
  | 0,_,_,_,_,_,_,_,_=>none
  | k+1,x8,x10,x12,x320000,x320001,x320002,x322000,x322001=>if x12 < (x322000.length:Int) then (if 0≤x12 then (if ((rdQ x322000 x12).f0)=2 then (if 0≤((rdQ x322000 x12).f2) then (if ((rdQ x322000 x12).f2) < (x8.length:Int) then (rfwithout.l2 k x8 x10 (wrap64 (x12+1)) x320000 x320001 x320002 (x322000.set (x12:Int).toNat (⟨(rdQ x322000 x12).f0,(rdQ x322000 x12).f1,rd x8 ((rdQ x322000 x12).f2),(rdQ x322000 x12).f3,(rdQ x322000 x12).f4⟩:S35)) x322001) else (none)) else (none)) else (if ((rdQ x322000 x12).f0)=3 then (if 0≤((rdQ x322000 x12).f1) then (if ((rdQ x322000 x12).f1) < (x8.length:Int) then (rfwithout.l2 k x8 x10 (wrap64 (x12+1)) x320000 x320001 x320002 (x322000.set (x12:Int).toNat (⟨(rdQ x322000 x12).f0,rd x8 ((rdQ x322000 x12).f1),(rdQ x322000 x12).f2,(rdQ x322000 x12).f3,(rdQ x322000 x12).f4⟩:S35)) x322001) else (none)) else (none)) else (if ((rdQ x322000 x12).f0)=4 then (if 0≤((rdQ x322000 x12).f1) then (if ((rdQ x322000 x12).f1) < (x8.length:Int) then (rfwithout.l2 k x8 x10 (wrap64 (x12+1)) x320000 x320001 x320002 (x322000.set (x12:Int).toNat (⟨(rdQ x322000 x12).f0,rd x8 ((rdQ x322000 x12).f1),(rdQ x322000 x12).f2,(rdQ x322000 x12).f3,(rdQ x322000 x12).f4⟩:S35)) x322001) else (none)) else (none)) else (rfwithout.l2 k x8 x10 (wrap64 (x12+1)) x320000 x320001 x320002 x322000 x322001)))) else (none)) else (rfwithout.l3 k x8 x10 0 x320000 x320001 x320002 x322000 x322001)
def rfwithout.l3:Nat→List Int→List Int→Int→List (S35)→List (S35)→List (S37)→List (S35)→List (S35)→Option ((List (S35)) × (List (S35)) × (List (S37)))
  | 0,_,_,_,_,_,_,_,_=>none
  | k+1,x8,x10,x13,x320000,x320001,x320002,x322000,x322001=>if x13 < (x322001.length:Int) then (if 0≤x13 then (if ((rdQ x322001 x13).f0)=16 then (if 0≤((rdQ x322001 x13).f2) then (if ((rdQ x322001 x13).f2) < (x10.length:Int) then (rfwithout.l3 k x8 x10 (wrap64 (x13+1)) x320000 x320001 x320002 x322000 (x322001.set (x13:Int).toNat (⟨(rdQ x322001 x13).f0,(rdQ x322001 x13).f1,rd x10 ((rdQ x322001 x13).f2),(rdQ x322001 x13).f3,(rdQ x322001 x13).f4⟩:S35))) else (none)) else (none)) else (rfwithout.l3 k x8 x10 (wrap64 (x13+1)) x320000 x320001 x320002 x322000 x322001)) else (none)) else (rfwithout.l4 k x8 0 x320000 x320001 x320002 x322000 x322001 ([]:List (S37)))
def rfwithout.l4:Nat→List Int→Int→List (S35)→List (S35)→List (S37)→List (S35)→List (S35)→List (S37)→Option ((List (S35)) × (List (S35)) × (List (S37)))
  | 0,_,_,_,_,_,_,_,_=>none
  | k+1,x8,x14,x320000,x320001,x320002,x322000,x322001,x322002=>if x14 < (x320002.length:Int) then (if 0≤x14 then (if 0≤((rdR x320002 x14).f1) then (if ((rdR x320002 x14).f1) < (x8.length:Int) then (if x322002.length < 8796093022208 then (rfwithout.l4 k x8 (wrap64 (x14+1)) x320000 x320001 x320002 x322000 x322001 (x322002 ++ [(⟨(rdR x320002 x14).f0,rd x8 ((rdR x320002 x14).f1)⟩:S37)])) else (none)) else (none)) else (none)) else (none)) else (some (x322000,x322001,x322002))
end
def rfwithout.f (k:Nat) (l0_0:List (S35)) (l0_1:List (S35)) (l0_2:List (S37)) (l1:List Bool) (l2:List Bool):Option ((List (S35)) × (List (S35)) × (List (S37))):=if 0≤(wrap64 ((l0_0.length:Int)+1)) then (if (wrap64 ((l0_0.length:Int)+1):Int).toNat≤35184372088832 then (rfwithout.l0 k l1 l2 (List.replicate (wrap64 ((l0_0.length:Int)+1):Int).toNat 0) 0 l0_0 l0_1 l0_2 ([]:List (S35))) else (none)) else (none)
theorem rfwithout.mono_l:∀ k,(∀ y0 y1 y2 y3 y4 y5 y6 y7,LeO (rfwithout.l0 k y0 y1 y2 y3 y4 y5 y6 y7) (rfwithout.l0 (k+1) y0 y1 y2 y3 y4 y5 y6 y7))∧(∀ y0 y1 y2 y3 y4 y5 y6 y7 y8,LeO (rfwithout.l1 k y0 y1 y2 y3 y4 y5 y6 y7 y8) (rfwithout.l1 (k+1) y0 y1 y2 y3 y4 y5 y6 y7 y8))∧(∀ y0 y1 y2 y3 y4 y5 y6 y7,LeO (rfwithout.l2 k y0 y1 y2 y3 y4 y5 y6 y7) (rfwithout.l2 (k+1) y0 y1 y2 y3 y4 y5 y6 y7))∧(∀ y0 y1 y2 y3 y4 y5 y6 y7,LeO (rfwithout.l3 k y0 y1 y2 y3 y4 y5 y6 y7) (rfwithout.l3 (k+1) y0 y1 y2 y3 y4 y5 y6 y7))∧(∀ y0 y1 y2 y3 y4 y5 y6 y7,LeO (rfwithout.l4 k y0 y1 y2 y3 y4 y5 y6 y7) (rfwithout.l4 (k+1) y0 y1 y2 y3 y4 y5 y6 y7))
  | 0=>⟨fun _ _ _ _ _ _ _ _ r h=>by simp [rfwithout.l0] at h,fun _ _ _ _ _ _ _ _ _ r h=>by simp [rfwithout.l1] at h,fun _ _ _ _ _ _ _ _ r h=>by simp [rfwithout.l2] at h,fun _ _ _ _ _ _ _ _ r h=>by simp [rfwithout.l3] at h,fun _ _ _ _ _ _ _ _ r h=>by simp [rfwithout.l4] at h⟩
  | k+1=>by
    obtain ⟨ih0,ih1,ih2,ih3,ih4⟩:=rfwithout.mono_l k
    refine ⟨?_,?_,?_,?_,?_⟩
    · intro y0 y1 y2 y3 y4 y5 y6 y7
      unfold rfwithout.l0
      repeat' first | (with_reducible exact ih0 _ _ _ _ _ _ _ _) | (with_reducible exact ih1 _ _ _ _ _ _ _ _ _) | (with_reducible exact LeO.refl _) | (with_reducible refine LeO.ite ?_ ?_) | (with_reducible refine LeO.bind ?_ (fun _=>?_))
    · intro y0 y1 y2 y3 y4 y5 y6 y7 y8
      unfold rfwithout.l1
      repeat' first | (with_reducible exact ih1 _ _ _ _ _ _ _ _ _) | (with_reducible exact ih2 _ _ _ _ _ _ _ _) | (with_reducible exact LeO.refl _) | (with_reducible refine LeO.ite ?_ ?_) | (with_reducible refine LeO.bind ?_ (fun _=>?_))
    · intro y0 y1 y2 y3 y4 y5 y6 y7
      unfold rfwithout.l2
      repeat' first | (with_reducible exact ih2 _ _ _ _ _ _ _ _) | (with_reducible exact ih3 _ _ _ _ _ _ _ _) | (with_reducible exact LeO.refl _) | (with_reducible refine LeO.ite ?_ ?_)
    · intro y0 y1 y2 y3 y4 y5 y6 y7
      unfold rfwithout.l3
      repeat' first | (with_reducible exact ih3 _ _ _ _ _ _ _ _) | (with_reducible exact ih4 _ _ _ _ _ _ _ _) | (with_reducible exact LeO.refl _) | (with_reducible refine LeO.ite ?_ ?_)
    · intro y0 y1 y2 y3 y4 y5 y6 y7
      unfold rfwithout.l4
      repeat' first | (with_reducible exact ih4 _ _ _ _ _ _ _ _) | (with_reducible exact LeO.refl _) | (with_reducible refine LeO.ite ?_ ?_)
theorem rfwithout.mono:∀ a0 a1 a2 a3 a4 k,LeO (rfwithout.f k a0 a1 a2 a3 a4) (rfwithout.f (k+1) a0 a1 a2 a3 a4):=by
  intro a0 a1 a2 a3 a4 k
  obtain ⟨ih0,ih1,ih2,ih3,ih4⟩:=rfwithout.mono_l k
  unfold rfwithout.f
  repeat' first | (with_reducible exact ih0 _ _ _ _ _ _ _ _) | (with_reducible exact LeO.refl _) | (with_reducible refine LeO.ite ?_ ?_)
def rfwithout.T8:Bool × List (List Nat × List Nat):=(true,[([],[]),([0],[0]),([],[]),([2],[2]),([],[]),([3,4],[3,4]),([5],[5]),([6],[6]),([1,7],[1,7]),([0,1,2,3,4,5,6,7,8],[]),([9,8,8,0,1,2,3,4,5,6,7,8],[8,9])])
def rfwithout.B8:List Nat:=[0,1,0,4,0,28,60,124,255,511,1023]
theorem rfwithout.tab8:rtab .any (opsOf Try.f41 8)=rfwithout.T8:=by kernel_rfl
theorem rfwithout.bits8:waitsOk rfwithout.T8.2 rfwithout.B8=true:=by kernel_rfl
def rfwithout.T15:Bool × List (List Nat × List Nat):=(true,[([],[]),([0],[0]),([],[]),([2],[2]),([],[]),([3,4],[3,4]),([5],[5]),([6],[6]),([1,7],[1,7]),([0,1,2,3,4,5,6,7,8],[]),([9,8,8,0,1,2,3,4,5,6,7,8],[8,9])])
def rfwithout.B15:List Nat:=[0,1,0,4,0,28,60,124,255,511,1023]
theorem rfwithout.tab15:rtab .any (opsOf Try.f41 15)=rfwithout.T15:=by kernel_rfl
theorem rfwithout.bits15:waitsOk rfwithout.T15.2 rfwithout.B15=true:=by kernel_rfl
def rfwithout.T21:Bool × List (List Nat × List Nat):=(true,[([],[]),([0],[0]),([],[]),([],[]),([],[]),([4],[4]),([],[]),([5,6],[5,6]),([7],[7]),([8],[8]),([3,9],[3,9]),([10],[10]),([1,2,0,1,2,3,4,5,6,7,8,9,10,11],[1,2]),([12,0,1,2,3,4,5,6,7,8,9,10,11],[12]),([13,11,0,1,2,3,4,5,6,7,8,9,10,11],[11,13])])
def rfwithout.B21:List Nat:=[0,1,0,0,0,16,0,112,240,496,1016,2040,4095,8191,16383]
theorem rfwithout.tab21:rtab .any (opsOf Try.f41 21)=rfwithout.T21:=by kernel_rfl
theorem rfwithout.bits21:waitsOk rfwithout.T21.2 rfwithout.B21=true:=by kernel_rfl
def rfwithout.T24:Bool × List (List Nat × List Nat):=(true,[([],[]),([0],[0]),([],[]),([],[]),([],[]),([4],[4]),([],[]),([5,6],[5,6]),([7],[7]),([8],[8]),([3,9],[3,9]),([10],[10]),([1,2,0,1,2,3,4,5,6,7,8,9,10,11],[1,2]),([12,0,1,2,3,4,5,6,7,8,9,10,11],[12]),([13,11,0,1,2,3,4,5,6,7,8,9,10,11],[11,13])])
def rfwithout.B24:List Nat:=[0,1,0,0,0,16,0,112,240,496,1016,2040,4095,8191,16383]
theorem rfwithout.tab24:rtab .any (opsOf Try.f41 24)=rfwithout.T24:=by kernel_rfl
theorem rfwithout.bits24:waitsOk rfwithout.T24.2 rfwithout.B24=true:=by kernel_rfl
def rfwithout.T29:Bool × List (List Nat × List Nat):=(true,[([],[]),([0],[0]),([],[]),([],[]),([],[]),([4],[4]),([],[]),([5,6],[5,6]),([7],[7]),([8],[8]),([3,9],[3,9]),([10],[10]),([1,2,0,1,2,3,4,5,6,7,8,9,10,11],[1,2]),([12,0,1,2,3,4,5,6,7,8,9,10,11],[12]),([13,11,0,1,2,3,4,5,6,7,8,9,10,11],[11,13])])
def rfwithout.B29:List Nat:=[0,1,0,0,0,16,0,112,240,496,1016,2040,4095,8191,16383]
theorem rfwithout.tab29:rtab .any (opsOf Try.f41 29)=rfwithout.T29:=by kernel_rfl
theorem rfwithout.bits29:waitsOk rfwithout.T29.2 rfwithout.B29=true:=by kernel_rfl
def rfwithout.T33:Bool × List (List Nat × List Nat):=(true,[([],[]),([0],[0]),([],[]),([2],[2]),([],[]),([3,4],[3,4]),([5],[5]),([6],[6]),([],[]),([],[]),([9],[9]),([],[]),([10,11],[10,11]),([12],[12]),([13],[13]),([8,14],[8,14]),([15],[15]),([7,16],[7,16]),([17],[17]),([1,18],[1,18]),([0,1,2,3,4,5,6,7,8,9,10,11,12,13,14,15,16,17,18,19],[]),([20,19,19,0,1,2,3,4,5,6,7,8,9,10,11,12,13,14,15,16,17,18,19],[19,20])])
def rfwithout.B33:List Nat:=[0,1,0,4,0,28,60,124,0,0,512,0,3584,7680,15872,32512,65280,131068,262140,524287,1048575,2097151]
theorem rfwithout.tab33:rtab .any (opsOf Try.f41 33)=rfwithout.T33:=by kernel_rfl
theorem rfwithout.bits33:waitsOk rfwithout.T33.2 rfwithout.B33=true:=by kernel_rfl
set_option maxHeartbeats 8000000 in
set_option maxRecDepth 100000 in
theorem rfwithout.calls (k:Nat) (bT:Option Addr) (bO:Nat) (au:List (S35)) (bU:Option Addr) (bP:Nat) (aw:List (S35)) (bV:Option Addr) (bQ:Nat) (aC:List (S37)) (A1:Option Addr) (c1:Nat) (l1:List Bool) (A2:Option Addr) (c2:Nat) (l2:List Bool) (r1:List (S35)) (r2:List (S35)) (r3:List (S37)) (w:World) (fr:Kd.C k35 w bT au.length au) (iO:au.length≤bO) (fs:Kd.C k35 w bU aw.length aw) (iQ:aw.length≤bP) (ft:Kd.C k37 w bV aC.length aC) (iR:aC.length≤bQ) (pn:Kd.C Kd.bool w A1 l1.length l1) (pC:l1.length≤c1) (po:Kd.C Kd.bool w A2 l2.length l2) (pD:l2.length≤c2) (h:rfwithout.f k au aw aC l1 l2=some (r1,r2,r3)) :
    Calls Try.prog 41 #[.agg #[.slice bT au.length bO,.slice bU aw.length bP,.slice bV aC.length bQ],.slice A1 l1.length c1,.slice A2 l2.length c2] w fun e w'=>∃ nq nr pq:Value,e=.returned (.agg #[nq,nr,pq])∧Kd.R k35 35 w' w.heap.size (fun k_=>some k_≠(nr:Value).ownBlock) nq r1∧Kd.R k35 35 w' w.heap.size (fun k_=>some k_≠(nq:Value).ownBlock) nr r2∧Kd.R k37 37 w' w.heap.size (fun _=>True) pq r3∧Below w.heap.size w w':=by
 have pG:=Try.underlying30
 have pH:=Try.underlying35
 have pI:=Try.underlying37
 have hu:=Aside0.mk fr
 clear fr iO
 have hv:=Aside0.mk fs
 clear fs iQ
 have eT:=Aside0.mk ft
 clear ft iR
 have nP:=Aside0.mk pn
 clear pn pC
 have nQ:=Aside0.mk po
 clear po pD
 have HB:=Aside0.mk (Below.refl w.heap.size w)
 have H:(if 0≤(wrap64 ((au.length:Int)+1)) then (if (wrap64 ((au.length:Int)+1):Int).toNat≤35184372088832 then (rfwithout.l0 k l1 l2 (List.replicate (wrap64 ((au.length:Int)+1):Int).toNat 0) 0 au aw aC ([]:List (S35))) else (none)) else (none))=some (r1,r2,r3):=h
 clear h
 obtain ⟨lw,jX⟩:∃ j_:Int,(wrap64 ((au.length:Int)+1))=j_:=⟨_,rfl⟩
 rw [jX] at H
 have ow:(IntKind.i64.wrap ((au.length:Int)+1))=lw:=(i64_w _).trans jX
 replace H:=iNB H
 obtain ⟨lQ,lR,H⟩:=H
 replace H:=iNB H
 obtain ⟨lS,lT,H⟩:=H
 obtain ⟨nv,dI⟩:∃ y_:List Int,y_=(List.replicate (lw:Int).toNat 0):=⟨_,rfl⟩
 rw [← dI] at H
 have hz:=Aside0.mk dI
 clear dI
 have H':=Aside0.mk H
 clear H
 go_enter Try.func41,Try.ntmps41
 go_wp2_with (first | ((with_reducible refine gate_dst (N:=3) rfl ?_);refine box_event ?hg (N:=3) ?hd (cs:=#[.slice bT au.length bO,.slice bU aw.length bP,.slice bV aC.length bQ]) (t:=30) ?hr ?_;(case hd=>rfl);(case hg=>rfl);(case hr=>(go_simp;done));intro aY hg w7 hbox hb;have ag:=Aside0.mk hbox;have nL:=qz HB hg;have nK:=qz HB hg;replace HB:=qs HB hb;clear hb hbox hg)|((with_reducible refine gate_dst (N:=6) rfl ?_);refine box_event ?hg (N:=6) ?hd (cs:=#[.slice none 0 0,.slice none 0 0,.slice none 0 0]) (t:=30) ?hr ?_;(case hd=>rfl);(case hg=>rfl);(case hr=>(go_simp;done));intro aX hg w8 hbox hb;have ah:=Aside0.mk hbox;have nM:=qz HB hg;have hl:=qz HB hg;replace HB:=qs HB hb;have aE:=qn ag hg;have aG:=qN ag hg;replace ag:=qb ag hb;clear hb hbox hg)|((with_reducible refine gate_dst (N:=7) rfl ?_);refine box_event ?hg (N:=7) ?hd (cs:=#[.slice none 0 0,.slice none 0 0,.slice none 0 0]) (t:=30) ?hr ?_;(case hd=>rfl);(case hg=>rfl);(case hr=>(go_simp;done));intro aA hg w9 hbox hb;have af:=Aside0.mk hbox;have nN:=qz HB hg;have cY:=qz HB hg;replace HB:=qs HB hb;have al:=qn ag hg;have ao:=qN ag hg;replace ag:=qb ag hb;have ar:=qn ah hg;have av:=qN ah hg;replace ah:=qb ah hb;clear hb hbox hg;have ox:=aE.out;have oS:=aG.out;have oy:=al.out;have oT:=ao.out;refine qc3 ag fun dX dY dZ eq er es=>?_)|((with_reducible refine gate_dst (N:=19) rfl ?_);refine Kd.R_make (Kd.int .i64) _ 3 rfl (N:=19) rfl 78 _ _ rfl lw rfl rfl Try.underlying78 (.int .i64 0) 8 info3 rfl (by decide) (by omega) 0 (ok:=fun _=>True) (okp:=fun _=>True) rfl (fun _ hk=>hk) trivial od (Nat.le_trans (Nat.mul_le_mul_right _ (od:lw.toNat≤35184372088832)) (by omega)) (Below.refl _ _) (Nat.le_refl _) ?_;intro bW qm gi hb hg_ hnew_;clear hg_ hnew_;(rw [← hz.out] at gi);have hq:=ql gi HB;replace ag:=qb ag hb;replace ah:=qb ah hb;replace af:=qb af hb;replace HB:=qs HB hb;clear hb gi))
 go_loopg [9] k (fun kq v9 w'=>∃ (aD:List Int) (aq:Int) (ak:List (S35)) (u322000:Value),v9=.int .i64 aq∧Aside0 (rfwithout.l0 kq l1 l2 aD aq au aw aC ak=some (r1,r2,r3))∧Aside0 (kq≤k)∧Aside0 (Kd.R (Kd.int .i64) 3 w' w.heap.size (fun _=>True) bW aD)∧Aside0 (Kd.R k35 35 w' w.heap.size (fun _=>True) u322000 ak)∧Aside0 (w'.heap[aY]?=some (.cells #[(.slice bT au.length bO),(.slice bU aw.length bP),(.slice bV aC.length bQ)] 30 (0,0)))∧Aside0 (w'.heap[aX]?=some (.cells #[(.slice none 0 0),(.slice none 0 0),(.slice none 0 0)] 30 (0,0)))∧Aside0 (w'.heap[aA]?=some (.cells #[u322000,(.slice none 0 0),(.slice none 0 0)] 30 (0,0)))∧Aside0 (Below w.heap.size w w'))
 case atStart=>exact ⟨(nv),(0),(([]:List (S35))),(.slice none 0 0),rfl,H',⟨Nat.le_refl _⟩,hq,⟨by (exact Kd.R_nil _ _ _ _ _)⟩,ag,ah,af,HB⟩
 clear H'
 clear lQ lR lS lT dX dY dZ eq er es
 obtain ⟨aD,aq,ak,u322000,rfl,HA,bS,am,ab,ag,ah,af,HB⟩:=hrel
 obtain _ | k1:=gk
 ·exact absurd HA.out (by simp [rfwithout.l0])
 have H:=HA.out
 clear HA
 simp only [rfwithout.l0] at H
 by_cases ha:aq < (au.length:Int)
 ·rw [if_pos ha] at H
  have eY:=decide_eq_true ha
  clear ha
  replace H:=iNd H
  obtain ⟨nR,H⟩:=H
  replace H:=iNd H
  obtain ⟨nS,H⟩:=H
  obtain ⟨cW,dJ⟩:∃ y_:List Int,y_=(aD.set (aq:Int).toNat (ak.length:Int)):=⟨_,rfl⟩
  replace H:(if aq < (l1.length:Int) then (if rdOf false l1 aq=true then (if ak.length < 3518437208883 then (rfwithout.l0 k1 l1 l2 cW (wrap64 (aq+1)) au aw aC (ak ++ [(⟨(rdQ au aq).f0,(rdQ au aq).f1,(rdQ au aq).f2,(rdQ au aq).f3,(rdQ au aq).f4⟩:S35)])) else (none)) else (rfwithout.l0 k1 l1 l2 cW (wrap64 (aq+1)) au aw aC ak)) else (none))=some (r1,r2,r3):=by (have lF:=(Option.bind_some _ _).symm.trans H;rw [dJ];with_reducible exact lF)
  have eW:=Aside0.mk dJ
  clear dJ
  replace H:=iNd H
  obtain ⟨nT,H⟩:=H
  obtain ⟨lG,dm⟩:∃ b_:Bool,b_=(rdOf false l1 aq):=⟨_,rfl⟩
  rw [← dm] at H
  have eU:=Aside0.mk dm
  clear dm
  by_cases kj:lG=true
  ·subst kj
   replace H:=iP H
   replace H:=iN H
   obtain ⟨nU,H⟩:=H
   have hx:=Aside0.mk nU
   clear nU
   obtain ⟨kc,dK⟩:∃ y_:List (S35),y_=(ak ++ [(⟨(rdQ au aq).f0,(rdQ au aq).f1,(rdQ au aq).f2,(rdQ au aq).f3,(rdQ au aq).f4⟩:S35)]):=⟨_,rfl⟩
   rw [← dK] at H
   have hA:=Aside0.mk dK
   clear dK
   have H':=Aside0.mk H
   clear H
   have oz:=aE.out
   have oU:=aG.out
   have oA:=al.out
   have oV:=ao.out
   refine qc3 ag fun kl km kn kN kO kP=>?_
   have oB:=av.out
   have oW:=ar.out
   refine qc3 af fun ko kp kr kQ kR kS=>?_
   obtain ⟨dT,dV,mo⟩:=Kd.R_slice ab.out
   subst mo
   have gz:0≤(aq:Int):=od
   have gN:(aq:Int) < ((aD.length:Int):Int):=od
   obtain ⟨cG,fL,di,dk,fP,lU,fy⟩:=Kd.R_form am.out (by omega)
   (first | cases di | (injection di with ea_ en_ ec_;(fail);subst ec_;clear en_))
   have fu:=Aside0.mk dk
   clear dk fP fy
   obtain ⟨gj,fT⟩:=Kd.R_celln 0 am.out (aq:Int) gz gN
   replace gz:=eq_true gz
   replace gN:=eq_true gN
   have fA:=Kd.R_putg am.out (aq:Int) (ak.length:Int)
   try go_wp2_with (first | ((with_reducible refine gate_store (t:=3) (p:=32) rfl ?_);refine store_event (t:=3) (p:=32) (v:=?kf) (w1:=(wr.setCell ⟨cG,(aq:Int).toNat,none⟩ (.int .i64 (ak.length:Int)))) ?hg ?ho ?hn ?hr ?_;(case ho=>rfl);(case hg=>rfl);(case hn=>rfl);(case hr=>(go_simp;done));intro lx hw;have hg:wr.grownBy lx (some cG):=(by rw [hw];exact fA.2);have hp_:Kd.R (Kd.int .i64) 3 lx w.heap.size (fun _=>True) (.slice (some ⟨cG,0,none⟩) aD.length fL) cW:=(by rw [hw,eW.out];exact fA.1);clear fA;replace ab:=qo ab am (by decide) hg;replace ag:=qg ag hg am (by decide);replace ah:=qg ah hg am (by decide);replace af:=qg af hg am (by decide);replace am:=Aside0.mk hp_;replace HB:=Aside0.mk ((by rw [hw];exact b_st (HB.out) fu.out:Below w.heap.size w lx));clear hg hw hp_;have cH:0≤(aq:Int):=od;have cJ:aq < (l1.length:Int):=od;obtain ⟨hI,fM,aN⟩:=Kd.at_bool nP.out aq cH cJ;(try rw [← eU.out] at aN);cases fM;replace aN:=(HB.out.cell (World.block_lt_of_cell? w _ aN)).trans aN;replace cH:=eq_true cH;replace cJ:=eq_true cJ))
   replace am:=qD am
   replace ab:=qD ab
   replace ag:=qr ag
   replace ah:=qr ah
   replace af:=qr af
   replace HB:=qd HB
   have gA:0≤(aq:Int):=od
   have gO:aq < (au.length:Int):=od
   obtain ⟨bq,ma,bt,bu,bv,bw,bx⟩:=at_T35 hu.out aq gA gO
   have bd:=bx
   have bc:=bw
   have bb:=bv
   have ba:=bu
   have aZ:=bt
   cases ma
   replace bt:=(HB.out.cell (World.block_lt_of_cell? w _ bt)).trans bt
   replace bu:=(HB.out.cell (World.block_lt_of_cell? w _ bu)).trans bu
   replace bv:=(HB.out.cell (World.block_lt_of_cell? w _ bv)).trans bv
   replace bw:=(HB.out.cell (World.block_lt_of_cell? w _ bw)).trans bw
   replace bx:=(HB.out.cell (World.block_lt_of_cell? w _ bx)).trans bx
   replace gA:=eq_true gA
   replace gO:=eq_true gO
   refine start_ (n:=11) (S:=fun w'=>w'.cell? ⟨aA,0,none⟩=some (.slice dT ak.length dV)∧w'.cell? ⟨aA,1,none⟩=some (.slice none 0 0)∧w'.cell? ⟨aA,2,none⟩=some (.slice none 0 0)∧w'.cell? ⟨aY,0,none⟩=some (.slice (some bq) au.length bO)∧w'.cell? ⟨aY,1,none⟩=some (.slice bU aw.length bP)∧w'.cell? ⟨aY,2,none⟩=some (.slice bV aC.length bQ)∧w'.cell? (bq.add ((aq).toNat*5))=some (.int .i64 ((rdQ au aq).f0))∧w'.cell? ⟨(bq.add ((aq).toNat*5)).block,(bq.add ((aq).toNat*5)).off+1,none⟩=some (.int .i64 ((rdQ au aq).f1))∧w'.cell? ⟨(bq.add ((aq).toNat*5)).block,(bq.add ((aq).toNat*5)).off+2,none⟩=some (.int .i64 ((rdQ au aq).f2))∧w'.cell? ⟨(bq.add ((aq).toNat*5)).block,(bq.add ((aq).toNat*5)).off+3,none⟩=some (.int .i64 ((rdQ au aq).f3))∧w'.cell? ⟨(bq.add ((aq).toNat*5)).block,(bq.add ((aq).toNat*5)).off+4,none⟩=some (.int .i64 ((rdQ au aq).f4))) (ds:=[10]) (fl 11 0) (by kernel_rfl) rfl rfl ⟨(bk_c af.out 0).trans rfl,(bk_c af.out 1).trans rfl,(bk_c af.out 2).trans rfl,(bk_c ag.out 0).trans rfl,(bk_c ag.out 1).trans rfl,(bk_c ag.out 2).trans rfl,((HB.out.cell (World.block_lt_of_cell? w _ aZ)).trans aZ),((HB.out.cell (World.block_lt_of_cell? w _ ba)).trans ba),((HB.out.cell (World.block_lt_of_cell? w _ bb)).trans bb),((HB.out.cell (World.block_lt_of_cell? w _ bc)).trans bc),((HB.out.cell (World.block_lt_of_cell? w _ bd)).trans bd)⟩ (fun hHeld=>?_);refine with_tabW rfwithout.tab8 rfwithout.bits8 (fun HT_ HW_=>?_)
   generalize lx.drew=qp at am ab ag ah af HB bt bu bv bw bx hHeld ⊢
   refine pA 11 0 37 1 ?_ HT_ (by kernel_rfl) rfl rfl (fun _ _ _ h=>h) (by rfl) ?_ ?_ ?_ ?_
   rotate_left
   intro w'
   go_simp
   with_reducible rfl
   rotate_left
   simp only [Act.put,s1,s2,s3,i64_w,i32_w]
   rfl
   refine pA 11 2 39 5 ?_ HT_ (by kernel_rfl) rfl rfl (fun _ _ _ h=>h) (by rfl) ?_ ?_ ?_ ?_
   rotate_left
   intro w'
   go_simp
   with_reducible rfl
   rotate_left
   simp only [Act.put,s1,s2,s3,i64_w,i32_w]
   rfl
   refine pA 11 4 41 21 ?_ HT_ (by kernel_rfl) rfl rfl (fun _ _ _ h=>h) (by rfl) ?_ ?_ ?_ ?_
   rotate_left
   intro w'
   go_simp
   with_reducible rfl
   rotate_left
   simp only [Act.put,s1,s2,s3,i64_w,i32_w]
   rfl
   refine pT 11 1 38 23 ?_ HT_ HW_ (by kernel_rfl) rfl rfl (fun _ _ _ h=>h) (by rfl) ?_ hHeld ?_ ?_ ?_
   rotate_left
   rintro w' ⟨_,_,_,_,_,_,_,_,_,_,_⟩
   go_simp
   with_reducible rfl
   rotate_left
   simp only [Act.put,s1,s2,s3,i64_w,i32_w]
   rfl
   refine pT 11 3 40 31 ?_ HT_ HW_ (by kernel_rfl) rfl rfl (fun _ _ _ h=>h) (by rfl) ?_ hHeld ?_ ?_ ?_
   rotate_left
   rintro w' ⟨_,_,_,_,_,_,_,_,_,_,_⟩
   go_simp
   with_reducible rfl
   rotate_left
   simp only [Act.put,s1,s2,s3,i64_w,i32_w]
   rfl
   refine pA 11 5 42 63 ?_ HT_ (by kernel_rfl) rfl rfl (fun _ _ _ h=>h) (by rfl) ?_ ?_ ?_ ?_
   rotate_left
   intro w'
   go_simp
   with_reducible rfl
   rotate_left
   simp only [Act.put,s1,s2,s3,i64_w,i32_w]
   rfl
   refine pT 11 6 43 127 ?_ HT_ HW_ (by kernel_rfl) rfl rfl (fun _ _ _ h=>h) (by rfl) ?_ hHeld ?_ ?_ ?_
   rotate_left
   rintro w' ⟨_,_,_,_,_,_,_,_,_,_,_⟩
   go_simp
   with_reducible rfl
   rotate_left
   simp only [Act.put,s1,s2,s3,i64_w,i32_w]
   rfl
   refine pO 11 7 255 (some 44) HT_ (by kernel_rfl) rfl rfl (by decide) (fun K hK=>?_)
   refine value_ (w1:=?_) (v:=?_) (by rfl) rfl ?_ ?_
   rotate_left 2
   ·go_simp
    constructor
    ·rfl
    rfl
   refine hK.out _ _ ⟨(bk_c (bk_a af.out _) 0).trans rfl,(bk_c (bk_a af.out _) 1).trans rfl,(bk_c (bk_a af.out _) 2).trans rfl,(bk_c (bk_a ag.out _) 0).trans rfl,(bk_c (bk_a ag.out _) 1).trans rfl,(bk_c (bk_a ag.out _) 2).trans rfl,(World.cell?_alloc_lt _ _ _ (World.block_lt_of_cell? _ _ (((HB.out.cell (World.block_lt_of_cell? w _ aZ)).trans aZ)))).trans (((HB.out.cell (World.block_lt_of_cell? w _ aZ)).trans aZ)),(World.cell?_alloc_lt _ _ _ (World.block_lt_of_cell? _ _ (((HB.out.cell (World.block_lt_of_cell? w _ ba)).trans ba)))).trans (((HB.out.cell (World.block_lt_of_cell? w _ ba)).trans ba)),(World.cell?_alloc_lt _ _ _ (World.block_lt_of_cell? _ _ (((HB.out.cell (World.block_lt_of_cell? w _ bb)).trans bb)))).trans (((HB.out.cell (World.block_lt_of_cell? w _ bb)).trans bb)),(World.cell?_alloc_lt _ _ _ (World.block_lt_of_cell? _ _ (((HB.out.cell (World.block_lt_of_cell? w _ bc)).trans bc)))).trans (((HB.out.cell (World.block_lt_of_cell? w _ bc)).trans bc)),(World.cell?_alloc_lt _ _ _ (World.block_lt_of_cell? _ _ (((HB.out.cell (World.block_lt_of_cell? w _ bd)).trans bd)))).trans (((HB.out.cell (World.block_lt_of_cell? w _ bd)).trans bd))⟩ (fun hHeld=>?_)
   clear hK K
   refine norm_ (a':=?_) ?_ ?_
   rotate_left
   ·show Act.put _ (some 44) _=_
    simp only [Act.put,s1,s2,s3,i64_w,i32_w]
    rfl
   refine pO 11 8 511 (some 45) HT_ (by kernel_rfl) rfl rfl (by decide) (fun K hK=>?_)
   refine Kd.R_append_step k35 (w0:=w) w.heap.size (by rfl) (.tmp 38) (.tmp 44) 27 35 (.agg #[(.int .i64 0),(.int .i64 0),(.int .i64 0),(.int .i64 0),(.int .i64 0)]) 40 rfl Try.underlying27 info35 rfl (by decide) (by omega) (.slice dT ak.length dV) ak (⟨(rdQ au aq).f0,(rdQ au aq).f1,(rdQ au aq).f2,(rdQ au aq).f3,(rdQ au aq).f4⟩:S35) [.int .i64 ((rdQ au aq).f0),.int .i64 ((rdQ au aq).f1),.int .i64 ((rdQ au aq).f2),.int .i64 ((rdQ au aq).f3),.int .i64 ((rdQ au aq).f4)] (fun _=>True) (fun _=>False) rfl rfl ?aP (fun _ hk=>hk.elim) ?aF ?aO ?aB ?aS ?aL ?_
   (case aP=>exact k35_mkM _ _ _ (⟨(rdQ au aq).f0,(rdQ au aq).f1,(rdQ au aq).f2,(rdQ au aq).f3,(rdQ au aq).f4⟩:S35))
   (case aB=>exact HB.out)
   (case aF=>exact (fun _ _=>trivial))
   (case aO=>exact ab.out)
   (case aS=>exact (below_size HB.out))
   (case aL=>have:=hx.out;omega)
   intro pY qj ho hb hg hat
   rw [← hA.out] at ho
   replace am:=qo am ab (by decide) hg
   replace ag:=qg ag hg ab (by decide)
   replace ah:=qg ah hg ab (by decide)
   replace af:=qg af hg ab (by decide)
   replace HB:=Aside0.mk hb
   have eN:=Aside0.mk ho
   clear ab
   clear ho hb hg hat
   obtain ⟨lz,lW,mp⟩:=Kd.R_slice eN.out
   (subst mp)
   refine hK.out _ _ ⟨(bk_c af.out 0).trans rfl,(bk_c af.out 1).trans rfl,(bk_c af.out 2).trans rfl,(bk_c ag.out 0).trans rfl,(bk_c ag.out 1).trans rfl,(bk_c ag.out 2).trans rfl,((HB.out.cell (World.block_lt_of_cell? w _ aZ)).trans aZ),((HB.out.cell (World.block_lt_of_cell? w _ ba)).trans ba),((HB.out.cell (World.block_lt_of_cell? w _ bb)).trans bb),((HB.out.cell (World.block_lt_of_cell? w _ bc)).trans bc),((HB.out.cell (World.block_lt_of_cell? w _ bd)).trans bd)⟩ (fun hHeld=>?_)
   clear hK K
   refine norm_ (a':=?_) ?_ ?_
   rotate_left
   ·show Act.put _ (some 45) _=_
    simp only [Act.put,s1,s2,s3,i64_w,i32_w]
    rfl
   refine pA 11 9 46 1023 ?_ HT_ (by kernel_rfl) rfl rfl (fun _ _ _ h=>h) (by rfl) ?_ ?_ ?_ ?_
   rotate_left
   intro w'
   go_simp
   with_reducible rfl
   rotate_left
   simp only [Act.put,s1,s2,s3,i64_w,i32_w]
   rfl
   refine pL 11 10 2047 (none) HT_ (by kernel_rfl) rfl rfl (by decide) (fun K hK=>?_)
   have pE:qj.cell? ⟨aA,0,none⟩=some (.slice dT ak.length dV):=(bk_c af.out 0).trans rfl
   have ou:=bk_f af.out 0
   have ls:=al.out
   have lt:=ar.out
   have lo:=ao.out
   have lp:=av.out
   refine skip_ (w1:=?_) (by rfl) rfl ?_ ?_
   rotate_left
   ·go_simp
    rfl
   refine hK.out _ _ ?_
   clear hK K
   refine done_ (done_of HT_.out (by kernel_rfl)) ?_
   try go_wp2
   go_roundg k1
   case measure=>have:=bS.out;omega
   case rel=>exact ⟨(cW),(wrap64 (aq+1)),(kc),(.slice lz kc.length lW),rfl,H',⟨by have:=bS.out;omega⟩,zRm am af (by decide) kb1 (fun _ _=>trivial),zRm eN af (by decide) kb1 (fun _ _=>trivial),zb ag al.out kb1,zb ah ar.out kb1,⟨by refine blk_put (cs:=#[.slice dT ak.length dV,.slice none 0 0,.slice none 0 0]) ?_ 0 _ rfl;exact af.out⟩,⟨by repeat ((with_reducible first | exact HB.out | refine b_st ?_ cY.out))⟩⟩
  replace kj:=Bool.eq_false_iff.mpr kj
  subst kj
  replace H:=iF H
  have H':=Aside0.mk H
  clear H
  have oC:=aE.out
  have oX:=aG.out
  have oD:=al.out
  have oY:=ao.out
  refine qc3 ag fun ks kt ku kT kU kV=>?_
  have oE:=av.out
  have oZ:=ar.out
  refine qc3 af fun kv kw kx kW kX kY=>?_
  obtain ⟨lA,lX,mq⟩:=Kd.R_slice ab.out
  subst mq
  have gz:0≤(aq:Int):=od
  have gN:(aq:Int) < ((aD.length:Int):Int):=od
  obtain ⟨cG,fL,di,dk,fP,lU,fy⟩:=Kd.R_form am.out (by omega)
  (first | cases di | (injection di with ea_ en_ ec_;(fail);subst ec_;clear en_))
  have fu:=Aside0.mk dk
  clear dk fP fy
  obtain ⟨gj,fT⟩:=Kd.R_celln 0 am.out (aq:Int) gz gN
  replace gz:=eq_true gz
  replace gN:=eq_true gN
  have fB:=Kd.R_putg am.out (aq:Int) (ak.length:Int)
  go_wp2_with (first | ((with_reducible refine gate_store (t:=3) (p:=32) rfl ?_);refine store_event (t:=3) (p:=32) (v:=?kg) (w1:=(wr.setCell ⟨cG,(aq:Int).toNat,none⟩ (.int .i64 (ak.length:Int)))) ?hg ?ho ?hn ?hr ?_;(case ho=>rfl);(case hg=>rfl);(case hn=>rfl);(case hr=>(go_simp;done));intro nt hw;have hg:wr.grownBy nt (some cG):=(by rw [hw];exact fB.2);have hp_:Kd.R (Kd.int .i64) 3 nt w.heap.size (fun _=>True) (.slice (some ⟨cG,0,none⟩) aD.length fL) cW:=(by rw [hw,eW.out];exact fB.1);clear fB;replace ab:=qo ab am (by decide) hg;replace ag:=qg ag hg am (by decide);replace ah:=qg ah hg am (by decide);replace af:=qg af hg am (by decide);replace am:=Aside0.mk hp_;replace HB:=Aside0.mk ((by rw [hw];exact b_st (HB.out) fu.out:Below w.heap.size w nt));clear hg hw hp_;have cH:0≤(aq:Int):=od;have cJ:aq < (l1.length:Int):=od;obtain ⟨hI,fM,aN⟩:=Kd.at_bool nP.out aq cH cJ;(try rw [← eU.out] at aN);cases fM;replace aN:=(HB.out.cell (World.block_lt_of_cell? w _ aN)).trans aN;replace cH:=eq_true cH;replace cJ:=eq_true cJ))
  go_roundg k1
  case measure=>have:=bS.out;omega
  case rel=>exact ⟨(cW),(wrap64 (aq+1)),(ak),(.slice lA ak.length lX),rfl,H',⟨by have:=bS.out;omega⟩,am,ab,ag,ah,af,HB⟩
 rw [if_neg ha] at H
 have eY:=decide_eq_false ha
 clear ha
 obtain ⟨eK,fq⟩:∃ j_:Int,(wrap64 ((aw.length:Int)+1))=j_:=⟨_,rfl⟩
 rw [fq] at H
 have mz:(IntKind.i64.wrap ((aw.length:Int)+1))=eK:=(i64_w _).trans fq
 replace H:=iNB H
 obtain ⟨hW,hX,H⟩:=H
 replace H:=iNB H
 obtain ⟨hY,hZ,H⟩:=H
 obtain ⟨nw,dL⟩:∃ y_:List Int,y_=(List.replicate (eK:Int).toNat 0):=⟨_,rfl⟩
 rw [← dL] at H
 have hB:=Aside0.mk dL
 clear dL
 have H':=Aside0.mk H
 clear H
 have oF:=aE.out
 have pa:=aG.out
 have oG:=al.out
 have pb:=ao.out
 refine qc3 ag fun ea eb ec et eu ev=>?_
 go_wp2_with (((with_reducible refine gate_dst (N:=51) rfl ?_);refine Kd.R_make (Kd.int .i64) _ 3 rfl (N:=51) rfl 78 _ _ rfl eK rfl rfl Try.underlying78 (.int .i64 0) 8 info3 rfl (by decide) (by omega) 0 (ok:=fun _=>True) (okp:=fun _=>True) rfl (fun _ hk=>hk) trivial od (Nat.le_trans (Nat.mul_le_mul_right _ (od:eK.toNat≤35184372088832)) (by omega)) (Below.refl _ _) (Nat.le_refl _) ?_;intro cV qq ez hb hg_ hnew_;clear hg_ hnew_;(rw [← hB.out] at ez);replace ab:=qB ab hb;have hs:=ql (qw ez am) HB;replace am:=qe am ez hb;replace ag:=qb ag hb;replace ah:=qb ah hb;replace af:=qb af hb;replace HB:=qs HB hb;clear hb ez))
 go_loopg [11] k1 (fun kq pU w'=>∃ (aI:List Int) (ai:Int) (ap:List (S35)) (u322001:Value),pU=.int .i64 ai∧Aside0 (rfwithout.l1 kq l2 aD aI ai au aw aC ak ap=some (r1,r2,r3))∧Aside0 (kq≤k1)∧Aside0 (Kd.R (Kd.int .i64) 3 w' w.heap.size (fun k_=>some k_≠(cV:Value).ownBlock) bW aD)∧Aside0 (Kd.R (Kd.int .i64) 3 w' w.heap.size (fun k_=>some k_≠(bW:Value).ownBlock) cV aI)∧Aside0 (Kd.R k35 35 w' w.heap.size (fun k_=>some k_≠(u322001:Value).ownBlock) u322000 ak)∧Aside0 (Kd.R k35 35 w' w.heap.size (fun k_=>some k_≠(u322000:Value).ownBlock) u322001 ap)∧Aside0 (w'.heap[aY]?=some (.cells #[(.slice bT au.length bO),(.slice bU aw.length bP),(.slice bV aC.length bQ)] 30 (0,0)))∧Aside0 (w'.heap[aX]?=some (.cells #[(.slice none 0 0),(.slice none 0 0),(.slice none 0 0)] 30 (0,0)))∧Aside0 (w'.heap[aA]?=some (.cells #[u322000,u322001,(.slice none 0 0)] 30 (0,0)))∧Aside0 (Below w.heap.size w w'))
 case atStart=>exact ⟨(nw),(0),(([]:List (S35))),(.slice none 0 0),rfl,H',⟨Nat.le_refl _⟩,⟨by exact Kd.R_mono am.out (fun _ hk=>hk.2)⟩,⟨by exact Kd.R_mono hs.out (fun _ hk=>hk.2)⟩,⟨by exact Kd.R_mono ab.out (fun _ hk=>(by simp [Value.ownBlock]))⟩,⟨by (exact Kd.R_nil _ _ _ _ _)⟩,ag,ah,af,HB⟩
 clear H'
 clear eY hW hX hY hZ ea eb ec et eu ev
 obtain ⟨aI,ai,ap,u322001,rfl,HA,cD,am,an,ab,ad,ag,ah,af,HB⟩:=hrel
 obtain _ | k2:=gk
 ·exact absurd HA.out (by simp [rfwithout.l1])
 have H:=HA.out
 clear HA
 simp only [rfwithout.l1] at H
 by_cases hc:ai < (aw.length:Int)
 ·rw [if_pos hc] at H
  have eZ:=decide_eq_true hc
  clear hc
  replace H:=iNd H
  obtain ⟨nV,H⟩:=H
  replace H:=iNd H
  obtain ⟨nW,H⟩:=H
  obtain ⟨cX,dM⟩:∃ y_:List Int,y_=(aI.set (ai:Int).toNat (ap.length:Int)):=⟨_,rfl⟩
  replace H:(if ai < (l2.length:Int) then (if rdOf false l2 ai=true then (if ap.length < 3518437208883 then (rfwithout.l1 k2 l2 aD cX (wrap64 (ai+1)) au aw aC ak (ap ++ [(⟨(rdQ aw ai).f0,(rdQ aw ai).f1,(rdQ aw ai).f2,(rdQ aw ai).f3,(rdQ aw ai).f4⟩:S35)])) else (none)) else (rfwithout.l1 k2 l2 aD cX (wrap64 (ai+1)) au aw aC ak ap)) else (none))=some (r1,r2,r3):=by (have lF:=(Option.bind_some _ _).symm.trans H;rw [dM];with_reducible exact lF)
  have eX:=Aside0.mk dM
  clear dM
  replace H:=iNd H
  obtain ⟨nX,H⟩:=H
  obtain ⟨lH,dn⟩:∃ b_:Bool,b_=(rdOf false l2 ai):=⟨_,rfl⟩
  rw [← dn] at H
  have eV:=Aside0.mk dn
  clear dn
  by_cases kk:lH=true
  ·subst kk
   replace H:=iP H
   replace H:=iN H
   obtain ⟨nY,H⟩:=H
   have hy:=Aside0.mk nY
   clear nY
   obtain ⟨kd,dN⟩:∃ y_:List (S35),y_=(ap ++ [(⟨(rdQ aw ai).f0,(rdQ aw ai).f1,(rdQ aw ai).f2,(rdQ aw ai).f3,(rdQ aw ai).f4⟩:S35)]):=⟨_,rfl⟩
   rw [← dN] at H
   have hC:=Aside0.mk dN
   clear dN
   have H':=Aside0.mk H
   clear H
   have oH:=aE.out
   have pc:=aG.out
   have oI:=al.out
   have pd:=ao.out
   refine qc3 ag fun ky kz kA kZ la lb=>?_
   have oJ:=av.out
   have pe:=ar.out
   refine qc3 af fun kB kC kD lc ld le=>?_
   obtain ⟨dU,dW,mr⟩:=Kd.R_slice ad.out
   subst mr
   have gK:0≤(ai:Int):=od
   have gY:(ai:Int) < ((aI.length:Int):Int):=od
   obtain ⟨bR,cE,dj,dl,fQ,lV,fz⟩:=Kd.R_form an.out (by omega)
   (first | cases dj | (injection dj with ea_ en_ ec_;(fail);subst ec_;clear en_))
   have fv:=Aside0.mk dl
   clear dl fQ fz
   obtain ⟨gl,fU⟩:=Kd.R_celln 0 an.out (ai:Int) gK gY
   replace gK:=eq_true gK
   replace gY:=eq_true gY
   have fC:=Kd.R_putg an.out (ai:Int) (ap.length:Int)
   try go_wp2_with (first | ((with_reducible refine gate_store (t:=3) (p:=64) rfl ?_);refine store_event (t:=3) (p:=64) (v:=?kh) (w1:=(wr.setCell ⟨bR,(ai:Int).toNat,none⟩ (.int .i64 (ap.length:Int)))) ?hg ?ho ?hn ?hr ?_;(case ho=>rfl);(case hg=>rfl);(case hn=>rfl);(case hr=>(go_simp;done));intro ly hw;have hg:wr.grownBy ly (some bR):=(by rw [hw];exact fC.2);have hp_:Kd.R (Kd.int .i64) 3 ly w.heap.size (fun k_=>some k_≠(bW:Value).ownBlock) (.slice (some ⟨bR,0,none⟩) aI.length cE) cX:=(by rw [hw,eX.out];exact fC.1);clear fC;replace am:=Aside0.mk (Kd.R_after (v:=(.slice (some ⟨bR,0,none⟩) aI.length cE)) (v1:=(.slice (some ⟨bR,0,none⟩) aI.length cE)) (ok:=(fun _=>True)) (by exact Kd.R_mono am.out (fun _ hk=>⟨trivial,hk⟩)) hg (.inl rfl));replace ab:=qo ab an (by decide) hg;replace ad:=qo ad an (by decide) hg;replace ag:=qg ag hg an (by decide);replace ah:=qg ah hg an (by decide);replace af:=qg af hg an (by decide);replace an:=Aside0.mk hp_;replace HB:=Aside0.mk ((by rw [hw];exact b_st (HB.out) fv.out:Below w.heap.size w ly));clear hg hw hp_;have cI:0≤(ai:Int):=od;have cK:ai < (l2.length:Int):=od;obtain ⟨hJ,fN,aQ⟩:=Kd.at_bool nQ.out ai cI cK;(try rw [← eV.out] at aQ);cases fN;replace aQ:=(HB.out.cell (World.block_lt_of_cell? w _ aQ)).trans aQ;replace cI:=eq_true cI;replace cK:=eq_true cK))
   replace am:=qD am
   replace an:=qD an
   replace ab:=qD ab
   replace ad:=qD ad
   replace ag:=qr ag
   replace ah:=qr ah
   replace af:=qr af
   replace HB:=qd HB
   have gB:0≤(ai:Int):=od
   have gP:ai < (aw.length:Int):=od
   obtain ⟨br,mb,bz,bA,bB,bC,bD⟩:=at_T35 hv.out ai gB gP
   have bi:=bD
   have bh:=bC
   have bg:=bB
   have bf:=bA
   have be:=bz
   cases mb
   replace bz:=(HB.out.cell (World.block_lt_of_cell? w _ bz)).trans bz
   replace bA:=(HB.out.cell (World.block_lt_of_cell? w _ bA)).trans bA
   replace bB:=(HB.out.cell (World.block_lt_of_cell? w _ bB)).trans bB
   replace bC:=(HB.out.cell (World.block_lt_of_cell? w _ bC)).trans bC
   replace bD:=(HB.out.cell (World.block_lt_of_cell? w _ bD)).trans bD
   replace gB:=eq_true gB
   replace gP:=eq_true gP
   refine start_ (n:=11) (S:=fun w'=>w'.cell? ⟨aA,0,none⟩=some (u322000)∧w'.cell? ⟨aA,1,none⟩=some (.slice dU ap.length dW)∧w'.cell? ⟨aA,2,none⟩=some (.slice none 0 0)∧w'.cell? ⟨aY,0,none⟩=some (.slice bT au.length bO)∧w'.cell? ⟨aY,1,none⟩=some (.slice (some br) aw.length bP)∧w'.cell? ⟨aY,2,none⟩=some (.slice bV aC.length bQ)∧w'.cell? (br.add ((ai).toNat*5))=some (.int .i64 ((rdQ aw ai).f0))∧w'.cell? ⟨(br.add ((ai).toNat*5)).block,(br.add ((ai).toNat*5)).off+1,none⟩=some (.int .i64 ((rdQ aw ai).f1))∧w'.cell? ⟨(br.add ((ai).toNat*5)).block,(br.add ((ai).toNat*5)).off+2,none⟩=some (.int .i64 ((rdQ aw ai).f2))∧w'.cell? ⟨(br.add ((ai).toNat*5)).block,(br.add ((ai).toNat*5)).off+3,none⟩=some (.int .i64 ((rdQ aw ai).f3))∧w'.cell? ⟨(br.add ((ai).toNat*5)).block,(br.add ((ai).toNat*5)).off+4,none⟩=some (.int .i64 ((rdQ aw ai).f4))) (ds:=[10]) (fl 11 0) (by kernel_rfl) rfl rfl ⟨(bk_c af.out 0).trans rfl,(bk_c af.out 1).trans rfl,(bk_c af.out 2).trans rfl,(bk_c ag.out 0).trans rfl,(bk_c ag.out 1).trans rfl,(bk_c ag.out 2).trans rfl,((HB.out.cell (World.block_lt_of_cell? w _ be)).trans be),((HB.out.cell (World.block_lt_of_cell? w _ bf)).trans bf),((HB.out.cell (World.block_lt_of_cell? w _ bg)).trans bg),((HB.out.cell (World.block_lt_of_cell? w _ bh)).trans bh),((HB.out.cell (World.block_lt_of_cell? w _ bi)).trans bi)⟩ (fun hHeld=>?_);refine with_tabW rfwithout.tab15 rfwithout.bits15 (fun HT_ HW_=>?_)
   generalize ly.drew=qt at am an ab ad ag ah af HB bz bA bB bC bD hHeld ⊢
   refine pA 11 0 69 1 ?_ HT_ (by kernel_rfl) rfl rfl (fun _ _ _ h=>h) (by rfl) ?_ ?_ ?_ ?_
   rotate_left
   intro w'
   go_simp
   with_reducible rfl
   rotate_left
   simp only [Act.put,s1,s2,s3,i64_w,i32_w]
   rfl
   refine pA 11 2 71 5 ?_ HT_ (by kernel_rfl) rfl rfl (fun _ _ _ h=>h) (by rfl) ?_ ?_ ?_ ?_
   rotate_left
   intro w'
   go_simp
   with_reducible rfl
   rotate_left
   simp only [Act.put,s1,s2,s3,i64_w,i32_w]
   rfl
   refine pA 11 4 73 21 ?_ HT_ (by kernel_rfl) rfl rfl (fun _ _ _ h=>h) (by rfl) ?_ ?_ ?_ ?_
   rotate_left
   intro w'
   go_simp
   with_reducible rfl
   rotate_left
   simp only [Act.put,s1,s2,s3,i64_w,i32_w]
   rfl
   refine pT 11 1 70 23 ?_ HT_ HW_ (by kernel_rfl) rfl rfl (fun _ _ _ h=>h) (by rfl) ?_ hHeld ?_ ?_ ?_
   rotate_left
   rintro w' ⟨_,_,_,_,_,_,_,_,_,_,_⟩
   go_simp
   with_reducible rfl
   rotate_left
   simp only [Act.put,s1,s2,s3,i64_w,i32_w]
   rfl
   refine pT 11 3 72 31 ?_ HT_ HW_ (by kernel_rfl) rfl rfl (fun _ _ _ h=>h) (by rfl) ?_ hHeld ?_ ?_ ?_
   rotate_left
   rintro w' ⟨_,_,_,_,_,_,_,_,_,_,_⟩
   go_simp
   with_reducible rfl
   rotate_left
   simp only [Act.put,s1,s2,s3,i64_w,i32_w]
   rfl
   refine pA 11 5 74 63 ?_ HT_ (by kernel_rfl) rfl rfl (fun _ _ _ h=>h) (by rfl) ?_ ?_ ?_ ?_
   rotate_left
   intro w'
   go_simp
   with_reducible rfl
   rotate_left
   simp only [Act.put,s1,s2,s3,i64_w,i32_w]
   rfl
   refine pT 11 6 75 127 ?_ HT_ HW_ (by kernel_rfl) rfl rfl (fun _ _ _ h=>h) (by rfl) ?_ hHeld ?_ ?_ ?_
   rotate_left
   rintro w' ⟨_,_,_,_,_,_,_,_,_,_,_⟩
   go_simp
   with_reducible rfl
   rotate_left
   simp only [Act.put,s1,s2,s3,i64_w,i32_w]
   rfl
   refine pO 11 7 255 (some 76) HT_ (by kernel_rfl) rfl rfl (by decide) (fun K hK=>?_)
   refine value_ (w1:=?_) (v:=?_) (by rfl) rfl ?_ ?_
   rotate_left 2
   ·go_simp
    constructor
    ·rfl
    rfl
   refine hK.out _ _ ⟨(bk_c (bk_a af.out _) 0).trans rfl,(bk_c (bk_a af.out _) 1).trans rfl,(bk_c (bk_a af.out _) 2).trans rfl,(bk_c (bk_a ag.out _) 0).trans rfl,(bk_c (bk_a ag.out _) 1).trans rfl,(bk_c (bk_a ag.out _) 2).trans rfl,(World.cell?_alloc_lt _ _ _ (World.block_lt_of_cell? _ _ (((HB.out.cell (World.block_lt_of_cell? w _ be)).trans be)))).trans (((HB.out.cell (World.block_lt_of_cell? w _ be)).trans be)),(World.cell?_alloc_lt _ _ _ (World.block_lt_of_cell? _ _ (((HB.out.cell (World.block_lt_of_cell? w _ bf)).trans bf)))).trans (((HB.out.cell (World.block_lt_of_cell? w _ bf)).trans bf)),(World.cell?_alloc_lt _ _ _ (World.block_lt_of_cell? _ _ (((HB.out.cell (World.block_lt_of_cell? w _ bg)).trans bg)))).trans (((HB.out.cell (World.block_lt_of_cell? w _ bg)).trans bg)),(World.cell?_alloc_lt _ _ _ (World.block_lt_of_cell? _ _ (((HB.out.cell (World.block_lt_of_cell? w _ bh)).trans bh)))).trans (((HB.out.cell (World.block_lt_of_cell? w _ bh)).trans bh)),(World.cell?_alloc_lt _ _ _ (World.block_lt_of_cell? _ _ (((HB.out.cell (World.block_lt_of_cell? w _ bi)).trans bi)))).trans (((HB.out.cell (World.block_lt_of_cell? w _ bi)).trans bi))⟩ (fun hHeld=>?_)
   clear hK K
   refine norm_ (a':=?_) ?_ ?_
   rotate_left
   ·show Act.put _ (some 76) _=_
    simp only [Act.put,s1,s2,s3,i64_w,i32_w]
    rfl
   refine pO 11 8 511 (some 77) HT_ (by kernel_rfl) rfl rfl (by decide) (fun K hK=>?_)
   refine Kd.R_append_step k35 (w0:=w) w.heap.size (by rfl) (.tmp 70) (.tmp 76) 27 35 (.agg #[(.int .i64 0),(.int .i64 0),(.int .i64 0),(.int .i64 0),(.int .i64 0)]) 40 rfl Try.underlying27 info35 rfl (by decide) (by omega) (.slice dU ap.length dW) ap (⟨(rdQ aw ai).f0,(rdQ aw ai).f1,(rdQ aw ai).f2,(rdQ aw ai).f3,(rdQ aw ai).f4⟩:S35) [.int .i64 ((rdQ aw ai).f0),.int .i64 ((rdQ aw ai).f1),.int .i64 ((rdQ aw ai).f2),.int .i64 ((rdQ aw ai).f3),.int .i64 ((rdQ aw ai).f4)] (fun k_=>some k_≠(u322000:Value).ownBlock) (fun _=>False) rfl rfl ?aP (fun _ hk=>hk.elim) ?aF ?aO ?aB ?aS ?aL ?_
   (case aP=>exact k35_mkM _ _ _ (⟨(rdQ aw ai).f0,(rdQ aw ai).f1,(rdQ aw ai).f2,(rdQ aw ai).f3,(rdQ aw ai).f4⟩:S35))
   (case aB=>exact HB.out)
   (case aF=>exact (fun k_ hk=>Kd.fresh' (Kd.R_lt ab.out) k_ hk))
   (case aO=>exact ad.out)
   (case aS=>exact (below_size HB.out))
   (case aL=>have:=hy.out;omega)
   intro pZ qk ho hb hg hat
   rw [← hC.out] at ho
   replace am:=qo am ad (by decide) hg
   replace an:=qo an ad (by decide) hg
   replace ab:=Aside0.mk (Kd.R_after (ok:=(fun _=>True)) (by exact Kd.R_mono ab.out (fun _ hk=>⟨trivial,hk⟩)) hg hat)
   replace ag:=qg ag hg ad (by decide)
   replace ah:=qg ah hg ad (by decide)
   replace af:=qg af hg ad (by decide)
   replace HB:=Aside0.mk hb
   have eO:=Aside0.mk ho
   clear ad
   clear ho hb hg hat
   obtain ⟨lB,lY,ms⟩:=Kd.R_slice eO.out
   (subst ms)
   refine hK.out _ _ ⟨(bk_c af.out 0).trans rfl,(bk_c af.out 1).trans rfl,(bk_c af.out 2).trans rfl,(bk_c ag.out 0).trans rfl,(bk_c ag.out 1).trans rfl,(bk_c ag.out 2).trans rfl,((HB.out.cell (World.block_lt_of_cell? w _ be)).trans be),((HB.out.cell (World.block_lt_of_cell? w _ bf)).trans bf),((HB.out.cell (World.block_lt_of_cell? w _ bg)).trans bg),((HB.out.cell (World.block_lt_of_cell? w _ bh)).trans bh),((HB.out.cell (World.block_lt_of_cell? w _ bi)).trans bi)⟩ (fun hHeld=>?_)
   clear hK K
   refine norm_ (a':=?_) ?_ ?_
   rotate_left
   ·show Act.put _ (some 77) _=_
    simp only [Act.put,s1,s2,s3,i64_w,i32_w]
    rfl
   refine pA 11 9 78 1023 ?_ HT_ (by kernel_rfl) rfl rfl (fun _ _ _ h=>h) (by rfl) ?_ ?_ ?_ ?_
   rotate_left
   intro w'
   go_simp
   with_reducible rfl
   rotate_left
   simp only [Act.put,s1,s2,s3,i64_w,i32_w]
   rfl
   refine pL 11 10 2047 (none) HT_ (by kernel_rfl) rfl rfl (by decide) (fun K hK=>?_)
   have pF:qk.cell? ⟨aA,1,none⟩=some (.slice dU ap.length dW):=(bk_c af.out 1).trans rfl
   have ov:=bk_f af.out 1
   have lu:=al.out
   have lv:=ar.out
   have lq:=ao.out
   have lr:=av.out
   refine skip_ (w1:=?_) (by rfl) rfl ?_ ?_
   rotate_left
   ·go_simp
    rfl
   refine hK.out _ _ ?_
   clear hK K
   refine done_ (done_of HT_.out (by kernel_rfl)) ?_
   try go_wp2
   go_roundg k2
   case measure=>have:=bS.out;have:=cD.out;omega
   case rel=>exact ⟨(cX),(wrap64 (ai+1)),(kd),(.slice lB kd.length lY),rfl,H',⟨by have:=bS.out;have:=cD.out;omega⟩,zRm am af (by decide) kb1 (fun _ hk=>hk.2),zR an af (by decide) kb1,zRm ab af (by decide) kb1 (fun _ hk=>hk.2),zR eO af (by decide) kb1,zb ag al.out kb1,zb ah ar.out kb1,⟨by refine blk_put (cs:=#[u322000,.slice dU ap.length dW,.slice none 0 0]) ?_ 1 _ rfl;exact af.out⟩,⟨by repeat ((with_reducible first | exact HB.out | refine b_st ?_ cY.out))⟩⟩
  replace kk:=Bool.eq_false_iff.mpr kk
  subst kk
  replace H:=iF H
  have H':=Aside0.mk H
  clear H
  have oK:=aE.out
  have pf:=aG.out
  have oL:=al.out
  have pg:=ao.out
  refine qc3 ag fun kE kF kG lf lg lh=>?_
  have oM:=av.out
  have ph:=ar.out
  refine qc3 af fun kH kI kJ li lj lk=>?_
  obtain ⟨lC,lZ,mt⟩:=Kd.R_slice ad.out
  subst mt
  have gK:0≤(ai:Int):=od
  have gY:(ai:Int) < ((aI.length:Int):Int):=od
  obtain ⟨bR,cE,dj,dl,fQ,lV,fz⟩:=Kd.R_form an.out (by omega)
  (first | cases dj | (injection dj with ea_ en_ ec_;(fail);subst ec_;clear en_))
  have fv:=Aside0.mk dl
  clear dl fQ fz
  obtain ⟨gl,fU⟩:=Kd.R_celln 0 an.out (ai:Int) gK gY
  replace gK:=eq_true gK
  replace gY:=eq_true gY
  have fD:=Kd.R_putg an.out (ai:Int) (ap.length:Int)
  go_wp2_with (first | ((with_reducible refine gate_store (t:=3) (p:=64) rfl ?_);refine store_event (t:=3) (p:=64) (v:=?ki) (w1:=(wr.setCell ⟨bR,(ai:Int).toNat,none⟩ (.int .i64 (ap.length:Int)))) ?hg ?ho ?hn ?hr ?_;(case ho=>rfl);(case hg=>rfl);(case hn=>rfl);(case hr=>(go_simp;done));intro nu hw;have hg:wr.grownBy nu (some bR):=(by rw [hw];exact fD.2);have hp_:Kd.R (Kd.int .i64) 3 nu w.heap.size (fun k_=>some k_≠(bW:Value).ownBlock) (.slice (some ⟨bR,0,none⟩) aI.length cE) cX:=(by rw [hw,eX.out];exact fD.1);clear fD;replace am:=Aside0.mk (Kd.R_after (v:=(.slice (some ⟨bR,0,none⟩) aI.length cE)) (v1:=(.slice (some ⟨bR,0,none⟩) aI.length cE)) (ok:=(fun _=>True)) (by exact Kd.R_mono am.out (fun _ hk=>⟨trivial,hk⟩)) hg (.inl rfl));replace ab:=qo ab an (by decide) hg;replace ad:=qo ad an (by decide) hg;replace ag:=qg ag hg an (by decide);replace ah:=qg ah hg an (by decide);replace af:=qg af hg an (by decide);replace an:=Aside0.mk hp_;replace HB:=Aside0.mk ((by rw [hw];exact b_st (HB.out) fv.out:Below w.heap.size w nu));clear hg hw hp_;have cI:0≤(ai:Int):=od;have cK:ai < (l2.length:Int):=od;obtain ⟨hJ,fN,aQ⟩:=Kd.at_bool nQ.out ai cI cK;(try rw [← eV.out] at aQ);cases fN;replace aQ:=(HB.out.cell (World.block_lt_of_cell? w _ aQ)).trans aQ;replace cI:=eq_true cI;replace cK:=eq_true cK))
  go_roundg k2
  case measure=>have:=bS.out;have:=cD.out;omega
  case rel=>exact ⟨(cX),(wrap64 (ai+1)),(ap),(.slice lC ap.length lZ),rfl,H',⟨by have:=bS.out;have:=cD.out;omega⟩,⟨by exact Kd.R_mono am.out (fun _ hk=>hk.2)⟩,an,ab,ad,ag,ah,af,HB⟩
 rw [if_neg hc] at H
 have eZ:=decide_eq_false hc
 clear hc
 have H':=Aside0.mk H
 clear H
 have oN:=aE.out
 have pi:=aG.out
 have oO:=al.out
 have pj:=ao.out
 refine qc3 ag fun ed ee ef ew ex ey=>?_
 go_wp2
 go_loopg [12] k2 (fun kq pV w'=>∃ (ac:Int) (aa:List (S35)) (aJ:List (S35)) (u322000:Value) (u322001:Value),pV=.int .i64 ac∧Aside0 (rfwithout.l2 kq aD aI ac au aw aC aa aJ=some (r1,r2,r3))∧Aside0 (kq≤k2)∧Aside0 (Kd.R (Kd.int .i64) 3 w' w.heap.size (fun k_=>some k_≠(cV:Value).ownBlock) bW aD)∧Aside0 (Kd.R (Kd.int .i64) 3 w' w.heap.size (fun k_=>some k_≠(bW:Value).ownBlock) cV aI)∧Aside0 (Kd.R k35 35 w' w.heap.size (fun k_=>some k_≠(u322001:Value).ownBlock) u322000 aa)∧Aside0 (Kd.R k35 35 w' w.heap.size (fun k_=>some k_≠(u322000:Value).ownBlock) u322001 aJ)∧Aside0 (w'.heap[aY]?=some (.cells #[(.slice bT au.length bO),(.slice bU aw.length bP),(.slice bV aC.length bQ)] 30 (0,0)))∧Aside0 (w'.heap[aX]?=some (.cells #[(.slice none 0 0),(.slice none 0 0),(.slice none 0 0)] 30 (0,0)))∧Aside0 (w'.heap[aA]?=some (.cells #[u322000,u322001,(.slice none 0 0)] 30 (0,0)))∧Aside0 (Below w.heap.size w w'))
 case atStart=>exact ⟨(0),(ak),(ap),(u322000),(u322001),rfl,H',⟨Nat.le_refl _⟩,am,an,ab,ad,ag,ah,af,HB⟩
 clear H'
 clear eZ ed ee ef ew ex ey
 obtain ⟨ac,aa,aJ,u322000,u322001,rfl,HA,cM,am,an,ab,ad,ag,ah,af,HB⟩:=hrel
 obtain _ | k3:=gk
 ·exact absurd HA.out (by simp [rfwithout.l2])
 have H:=HA.out
 clear HA
 simp only [rfwithout.l2] at H
 by_cases he:ac < (aa.length:Int)
 ·rw [if_pos he] at H
  have fa:=decide_eq_true he
  clear he
  replace H:=iNd H
  obtain ⟨nZ,H⟩:=H
  by_cases ia:((rdQ aa ac).f0)=2
  ·rw [if_pos ia] at H
   obtain ⟨ib,ic⟩:=cBt ia
   clear ia
   replace H:=iNd H
   obtain ⟨oa,H⟩:=H
   replace H:=iNd H
   obtain ⟨ob,H⟩:=H
   obtain ⟨nx,dO⟩:∃ y_:List (S35),y_=(aa.set (ac:Int).toNat (⟨(rdQ aa ac).f0,(rdQ aa ac).f1,rd aD ((rdQ aa ac).f2),(rdQ aa ac).f3,(rdQ aa ac).f4⟩:S35)):=⟨_,rfl⟩
   rw [← dO] at H
   have hD:=Aside0.mk dO
   clear dO
   have H':=Aside0.mk H
   clear H
   have oP:=ao.out
   have pk:=al.out
   have oQ:=av.out
   have pl:=ar.out
   refine qc3 af fun kK kL kM ll lm ln=>?_
   obtain ⟨pr,im,mu⟩:=Kd.R_slice ab.out
   subst mu
   obtain ⟨bN,cF,gC,gQ,aR,aT,aU,aV,aW⟩:=ro35 ab ac
   cases cF
   try go_wp2
   replace am:=qD am
   replace an:=qD an
   replace ab:=qD ab
   replace ad:=qD ad
   replace ag:=qr ag
   replace ah:=qr ah
   replace af:=qr af
   replace HB:=qd HB
   obtain ⟨hL,mc,pJ,pP,cd,ce,cf,cg,ch⟩:=ro35 ab ac
   obtain rfl:bN=hL:=(by injection mc)
   obtain ⟨ps,pz,mv⟩:=Kd.R_slice am.out
   (subst mv)
   have gD:0≤(((rdQ aa ac).f2):Int):=od
   have gR:((rdQ aa ac).f2) < (aD.length:Int):=od
   obtain ⟨hM,md,cO⟩:=Kd.at_int (Kd.R_reads' am.out).2.2 ((rdQ aa ac).f2) gD gR
   cases md
   replace gD:=eq_true gD
   replace gR:=eq_true gR
   have nl:0≤(ac:Int):=od
   have no:(ac:Int) < ((aa.length:Int):Int):=od
   obtain ⟨bj,py,iD,iG,mw,pw,hm⟩:=Kd.R_form ab.out (by omega)
   (first | cases iD | (injection iD with ea_ en_ ec_;(fail);subst ec_;clear en_))
   have lD:=Aside0.mk iG
   have fw:=Aside0.mk hm
   clear iG mw hm
   (simp only [add_plain] at aR)
   (simp only [add_plain] at aT)
   (simp only [add_plain] at aU)
   (simp only [add_plain] at aV)
   (simp only [add_plain] at aW)
   (simp only [add_plain] at cd)
   (simp only [add_plain] at ce)
   (simp only [add_plain] at cf)
   (simp only [add_plain] at cg)
   (simp only [add_plain] at ch)
   obtain ⟨pt,iS,iK,bZ,cb⟩:=Kd.R_elem ab.out z35 (ac:Int) nl no
   obtain rfl:=k35_openM iK
   have gm:World.cell? _ ⟨bj,(ac:Int).toNat*5,none⟩=some (.int .i64 ((rdQ aa ac).f0)):=bZ 0 _ rfl
   have gn:World.cell? _ ⟨bj,(ac:Int).toNat*5+1,none⟩=some (.int .i64 ((rdQ aa ac).f1)):=bZ 1 _ rfl
   have gp:World.cell? _ ⟨bj,(ac:Int).toNat*5+2,none⟩=some (.int .i64 ((rdQ aa ac).f2)):=bZ 2 _ rfl
   have gq:World.cell? _ ⟨bj,(ac:Int).toNat*5+3,none⟩=some (.int .i64 ((rdQ aa ac).f3)):=bZ 3 _ rfl
   have gr:World.cell? _ ⟨bj,(ac:Int).toNat*5+4,none⟩=some (.int .i64 ((rdQ aa ac).f4)):=bZ 4 _ rfl
   have fV:World.frozen? _ ⟨bj,(ac:Int).toNat*5,none⟩=false:=cb 0
   have fW:World.frozen? _ ⟨bj,(ac:Int).toNat*5+1,none⟩=false:=cb 1
   have fX:World.frozen? _ ⟨bj,(ac:Int).toNat*5+2,none⟩=false:=cb 2
   have fY:World.frozen? _ ⟨bj,(ac:Int).toNat*5+3,none⟩=false:=cb 3
   have fZ:World.frozen? _ ⟨bj,(ac:Int).toNat*5+4,none⟩=false:=cb 4
   clear iS bZ cb iK
   replace nl:=eq_true nl
   replace no:=eq_true no
   obtain ⟨pu,fp,iL,fo,jv⟩:=Kd.R_elem ab.out z35 (ac:Int) od (by have h_:(ac:Int) < ((aa.length:Int):Int):=od;(exact h_))
   obtain rfl:=k35_openM iL
   have fE:=(Kd.R_seg ab.out (ac:Int) od (by have h_:(ac:Int) < ((aa.length:Int):Int):=od;(exact h_)) (seg:=[.int .i64 (rd aD ((rdQ aa ac).f2))]) (j:=2) fp fo (show 3≤5 from by decide) (x':=(⟨(rdQ aa ac).f0,(rdQ aa ac).f1,rd aD ((rdQ aa ac).f2),(rdQ aa ac).f3,(rdQ aa ac).f4⟩:S35)) (k35_mkM _ _ _ (⟨(rdQ aa ac).f0,(rdQ aa ac).f1,rd aD ((rdQ aa ac).f2),(rdQ aa ac).f3,(rdQ aa ac).f4⟩:S35) ) (fun _ hk=>hk)).1
   rw [← hD.out] at fE
   have ht:=Aside0.mk fE
   clear fp fo jv iL fE
   refine start_ (n:=15) (S:=fun w'=>w'.cell? ⟨aA,0,none⟩=some (.slice (some ⟨bj,0,none⟩) aa.length im)∧w'.cell? ⟨aA,1,none⟩=some (u322001)∧w'.cell? ⟨aA,2,none⟩=some (.slice none 0 0)∧w'.cell? ⟨bj,((ac).toNat*5),none⟩=some (.int .i64 ((rdQ aa ac).f0))∧w'.cell? ⟨bj,((ac).toNat*5)+1,none⟩=some (.int .i64 ((rdQ aa ac).f1))∧w'.cell? ⟨bj,((ac).toNat*5)+2,none⟩=some (.int .i64 ((rdQ aa ac).f2))∧w'.cell? ⟨bj,((ac).toNat*5)+3,none⟩=some (.int .i64 ((rdQ aa ac).f3))∧w'.cell? ⟨bj,((ac).toNat*5)+4,none⟩=some (.int .i64 ((rdQ aa ac).f4))∧w'.cell? (hM.add (((rdQ aa ac).f2)).toNat)=some (.int .i64 (rd aD ((rdQ aa ac).f2)))) (ds:=[14]) (fl 15 0) (by kernel_rfl) rfl rfl ⟨(bk_c af.out 0).trans rfl,(bk_c af.out 1).trans rfl,(bk_c af.out 2).trans rfl,cd,ce,cf,cg,ch,cO⟩ (fun hHeld=>?_);refine with_tabW rfwithout.tab21 rfwithout.bits21 (fun HT_ HW_=>?_)
   generalize wr.drew=qu at am an ab ad ag ah af HB fw ht fV fW fX fY fZ aR aT aU aV aW cd ce cf cg ch cO gm gn gp gq gr hHeld ⊢
   refine pA 15 0 94 1 ?_ HT_ (by kernel_rfl) rfl rfl (fun _ _ _ h=>h) (by rfl) ?_ ?_ ?_ ?_
   rotate_left
   intro w'
   go_simp
   with_reducible rfl
   rotate_left
   simp only [Act.put,s1,s2,s3,i64_w,i32_w]
   rfl
   refine pA 15 2 96 5 ?_ HT_ (by kernel_rfl) rfl rfl (fun _ _ _ h=>h) (by rfl) ?_ ?_ ?_ ?_
   rotate_left
   intro w'
   go_simp
   with_reducible rfl
   rotate_left
   simp only [Act.put,s1,s2,s3,i64_w,i32_w]
   rfl
   refine pA 15 3 97 13 ?_ HT_ (by kernel_rfl) rfl rfl (fun _ _ _ h=>h) (by rfl) ?_ ?_ ?_ ?_
   rotate_left
   intro w'
   go_simp
   with_reducible rfl
   rotate_left
   simp only [Act.put,s1,s2,s3,i64_w,i32_w]
   rfl
   refine pA 15 4 98 29 ?_ HT_ (by kernel_rfl) rfl rfl (fun _ _ _ h=>h) (by rfl) ?_ ?_ ?_ ?_
   rotate_left
   intro w'
   go_simp
   with_reducible rfl
   rotate_left
   simp only [Act.put,s1,s2,s3,i64_w,i32_w]
   rfl
   refine pA 15 6 100 93 ?_ HT_ (by kernel_rfl) rfl rfl (fun _ _ _ h=>h) (by rfl) ?_ ?_ ?_ ?_
   rotate_left
   intro w'
   go_simp
   with_reducible rfl
   rotate_left
   simp only [Act.put,s1,s2,s3,i64_w,i32_w]
   rfl
   refine pT 15 1 95 95 ?_ HT_ HW_ (by kernel_rfl) rfl rfl (fun _ _ _ h=>h) (by rfl) ?_ hHeld ?_ ?_ ?_
   rotate_left
   rintro w' ⟨_,_,_,_,_,_,_,_,_⟩
   go_simp
   with_reducible rfl
   rotate_left
   simp only [Act.put,s1,s2,s3,i64_w,i32_w]
   rfl
   refine pT 15 5 99 127 ?_ HT_ HW_ (by kernel_rfl) rfl rfl (fun _ _ _ h=>h) (by rfl) ?_ hHeld ?_ ?_ ?_
   rotate_left
   rintro w' ⟨_,_,_,_,_,_,_,_,_⟩
   go_simp
   with_reducible rfl
   rotate_left
   simp only [Act.put,s1,s2,s3,i64_w,i32_w]
   rfl
   refine pA 15 7 101 255 ?_ HT_ (by kernel_rfl) rfl rfl (fun _ _ _ h=>h) (by rfl) ?_ ?_ ?_ ?_
   rotate_left
   intro w'
   go_simp
   with_reducible rfl
   rotate_left
   simp only [Act.put,s1,s2,s3,i64_w,i32_w]
   rfl
   refine pA 15 8 102 511 ?_ HT_ (by kernel_rfl) rfl rfl (fun _ _ _ h=>h) (by rfl) ?_ ?_ ?_ ?_
   rotate_left
   intro w'
   go_simp
   with_reducible rfl
   rotate_left
   simp only [Act.put,s1,s2,s3,i64_w,i32_w]
   rfl
   refine pT 15 9 103 1023 ?_ HT_ HW_ (by kernel_rfl) rfl rfl (fun _ _ _ h=>h) (by rfl) ?_ hHeld ?_ ?_ ?_
   rotate_left
   rintro w' ⟨_,_,_,_,_,_,_,_,_⟩
   go_simp
   with_reducible rfl
   rotate_left
   simp only [Act.put,s1,s2,s3,i64_w,i32_w]
   rfl
   refine pA 15 10 104 2047 ?_ HT_ (by kernel_rfl) rfl rfl (fun _ _ _ h=>h) (by rfl) ?_ ?_ ?_ ?_
   rotate_left
   intro w'
   go_simp
   with_reducible rfl
   rotate_left
   simp only [Act.put,s1,s2,s3,i64_w,i32_w]
   rfl
   refine pT 15 11 105 4095 ?_ HT_ HW_ (by kernel_rfl) rfl rfl (fun _ _ _ h=>h) (by rfl) ?_ hHeld ?_ ?_ ?_
   rotate_left
   rintro w' ⟨_,_,_,_,_,_,_,_,_⟩
   go_simp
   with_reducible rfl
   rotate_left
   simp only [Act.put,s1,s2,s3,i64_w,i32_w]
   rfl
   refine pA 15 12 106 8191 ?_ HT_ (by kernel_rfl) rfl rfl (fun _ _ _ h=>h) (by rfl) ?_ ?_ ?_ ?_
   rotate_left
   intro w'
   go_simp
   with_reducible rfl
   rotate_left
   simp only [Act.put,s1,s2,s3,i64_w,i32_w]
   rfl
   refine pA 15 13 107 16383 ?_ HT_ (by kernel_rfl) rfl rfl (fun _ _ _ h=>h) (by rfl) ?_ ?_ ?_ ?_
   rotate_left
   intro w'
   go_simp
   with_reducible rfl
   rotate_left
   simp only [Act.put,s1,s2,s3,i64_w,i32_w]
   rfl
   refine pL 15 14 32767 (none) HT_ (by kernel_rfl) rfl rfl (by decide) (fun K hK=>?_)
   refine skip_ (w1:=?_) (by rfl) rfl ?_ ?_
   rotate_left
   ·go_simp
    rfl
   refine hK.out _ _ ?_
   clear hK K
   refine done_ (done_of HT_.out (by kernel_rfl)) ?_
   try go_wp2
   go_roundg k3
   case measure=>have:=bS.out;have:=cD.out;have:=cM.out;omega
   case rel=>exact ⟨(wrap64 (ac+1)),(nx),(aJ),(.slice (some ⟨bj,0,none⟩) aa.length im),(u322001),rfl,H',⟨by have:=bS.out;have:=cD.out;have:=cM.out;omega⟩,zR am fw (by decide) kb1,zR an fw (by decide) kb1,ht,zM ad (fun _ hk=>fun e_=>hk (by rw [e_];rfl)) kb1,zb ag (zn ab ag (by decide)) kb1,zb ah (zn ab ah (by decide)) kb1,zb af (zn ab af (by decide)) kb1,⟨by repeat ((with_reducible first | exact HB.out | refine b_st ?_ lD.out))⟩⟩
  rw [if_neg ia] at H
  obtain ⟨ib,ic⟩:=cBf ia
  by_cases ie:((rdQ aa ac).f0)=3
  ·rw [if_pos ie] at H
   obtain ⟨ig,ih⟩:=cBt ie
   clear ie
   replace H:=iNd H
   obtain ⟨oc,H⟩:=H
   replace H:=iNd H
   obtain ⟨oe,H⟩:=H
   obtain ⟨ny,dP⟩:∃ y_:List (S35),y_=(aa.set (ac:Int).toNat (⟨(rdQ aa ac).f0,rd aD ((rdQ aa ac).f1),(rdQ aa ac).f2,(rdQ aa ac).f3,(rdQ aa ac).f4⟩:S35)):=⟨_,rfl⟩
   rw [← dP] at H
   have hE:=Aside0.mk dP
   clear dP
   have H':=Aside0.mk H
   clear H
   have oR:=ao.out
   have pm:=al.out
   have mA:=av.out
   have mS:=ar.out
   refine qc3 af fun iU iV iW jw jx jy=>?_
   obtain ⟨nB,fb,io⟩:=Kd.R_slice ab.out
   subst io
   obtain ⟨bN,cF,gC,gQ,aR,aT,aU,aV,aW⟩:=ro35 ab ac
   cases cF
   try go_wp2
   replace am:=qD am
   replace an:=qD an
   replace ab:=qD ab
   replace ad:=qD ad
   replace ag:=qr ag
   replace ah:=qr ah
   replace af:=qr af
   replace HB:=qd HB
   obtain ⟨hN,me,pK,pQ,ci,cj,ck,cl,cm⟩:=ro35 ab ac
   obtain rfl:bN=hN:=(by injection me)
   obtain ⟨nC,on,ip⟩:=Kd.R_slice am.out
   (subst ip)
   have gE:0≤(((rdQ aa ac).f1):Int):=od
   have gS:((rdQ aa ac).f1) < (aD.length:Int):=od
   obtain ⟨hO,mf,cP⟩:=Kd.at_int (Kd.R_reads' am.out).2.2 ((rdQ aa ac).f1) gE gS
   cases mf
   replace gE:=eq_true gE
   replace gS:=eq_true gS
   have nm:0≤(ac:Int):=od
   have np:(ac:Int) < ((aa.length:Int):Int):=od
   obtain ⟨bk,pB,iE,iH,mx,px,hp⟩:=Kd.R_form ab.out (by omega)
   (first | cases iE | (injection iE with ea_ en_ ec_;(fail);subst ec_;clear en_))
   have lE:=Aside0.mk iH
   have fx:=Aside0.mk hp
   clear iH mx hp
   (simp only [add_plain] at aR)
   (simp only [add_plain] at aT)
   (simp only [add_plain] at aU)
   (simp only [add_plain] at aV)
   (simp only [add_plain] at aW)
   (simp only [add_plain] at ci)
   (simp only [add_plain] at cj)
   (simp only [add_plain] at ck)
   (simp only [add_plain] at cl)
   (simp only [add_plain] at cm)
   obtain ⟨pv,iT,iM,ca,cc⟩:=Kd.R_elem ab.out z35 (ac:Int) nm np
   obtain rfl:=k35_openM iM
   have gs:World.cell? _ ⟨bk,(ac:Int).toNat*5,none⟩=some (.int .i64 ((rdQ aa ac).f0)):=ca 0 _ rfl
   have gt:World.cell? _ ⟨bk,(ac:Int).toNat*5+1,none⟩=some (.int .i64 ((rdQ aa ac).f1)):=ca 1 _ rfl
   have gu:World.cell? _ ⟨bk,(ac:Int).toNat*5+2,none⟩=some (.int .i64 ((rdQ aa ac).f2)):=ca 2 _ rfl
   have gv:World.cell? _ ⟨bk,(ac:Int).toNat*5+3,none⟩=some (.int .i64 ((rdQ aa ac).f3)):=ca 3 _ rfl
   have gw:World.cell? _ ⟨bk,(ac:Int).toNat*5+4,none⟩=some (.int .i64 ((rdQ aa ac).f4)):=ca 4 _ rfl
   have ga:World.frozen? _ ⟨bk,(ac:Int).toNat*5,none⟩=false:=cc 0
   have gb:World.frozen? _ ⟨bk,(ac:Int).toNat*5+1,none⟩=false:=cc 1
   have gc:World.frozen? _ ⟨bk,(ac:Int).toNat*5+2,none⟩=false:=cc 2
   have gd:World.frozen? _ ⟨bk,(ac:Int).toNat*5+3,none⟩=false:=cc 3
   have ge:World.frozen? _ ⟨bk,(ac:Int).toNat*5+4,none⟩=false:=cc 4
   clear iT ca cc iM
   replace nm:=eq_true nm
   replace np:=eq_true np
   obtain ⟨of,dt,fi,dp,gf⟩:=Kd.R_elem ab.out z35 (ac:Int) od (by have h_:(ac:Int) < ((aa.length:Int):Int):=od;(exact h_))
   obtain rfl:=k35_openM fi
   have db:=(Kd.R_seg ab.out (ac:Int) od (by have h_:(ac:Int) < ((aa.length:Int):Int):=od;(exact h_)) (seg:=[.int .i64 (rd aD ((rdQ aa ac).f1))]) (j:=1) dt dp (show 2≤5 from by decide) (x':=(⟨(rdQ aa ac).f0,rd aD ((rdQ aa ac).f1),(rdQ aa ac).f2,(rdQ aa ac).f3,(rdQ aa ac).f4⟩:S35)) (k35_mkM _ _ _ (⟨(rdQ aa ac).f0,rd aD ((rdQ aa ac).f1),(rdQ aa ac).f2,(rdQ aa ac).f3,(rdQ aa ac).f4⟩:S35) ) (fun _ hk=>hk)).1
   rw [← hE.out] at db
   have eQ:=Aside0.mk db
   clear dt dp gf fi db
   refine start_ (n:=15) (S:=fun w'=>w'.cell? ⟨aA,0,none⟩=some (.slice (some ⟨bk,0,none⟩) aa.length fb)∧w'.cell? ⟨aA,1,none⟩=some (u322001)∧w'.cell? ⟨aA,2,none⟩=some (.slice none 0 0)∧w'.cell? ⟨bk,((ac).toNat*5),none⟩=some (.int .i64 ((rdQ aa ac).f0))∧w'.cell? ⟨bk,((ac).toNat*5)+1,none⟩=some (.int .i64 ((rdQ aa ac).f1))∧w'.cell? ⟨bk,((ac).toNat*5)+2,none⟩=some (.int .i64 ((rdQ aa ac).f2))∧w'.cell? ⟨bk,((ac).toNat*5)+3,none⟩=some (.int .i64 ((rdQ aa ac).f3))∧w'.cell? ⟨bk,((ac).toNat*5)+4,none⟩=some (.int .i64 ((rdQ aa ac).f4))∧w'.cell? (hO.add (((rdQ aa ac).f1)).toNat)=some (.int .i64 (rd aD ((rdQ aa ac).f1)))) (ds:=[14]) (fl 15 0) (by kernel_rfl) rfl rfl ⟨(bk_c af.out 0).trans rfl,(bk_c af.out 1).trans rfl,(bk_c af.out 2).trans rfl,ci,cj,ck,cl,cm,cP⟩ (fun hHeld=>?_);refine with_tabW rfwithout.tab24 rfwithout.bits24 (fun HT_ HW_=>?_)
   generalize wr.drew=qc at am an ab ad ag ah af HB fx eQ ga gb gc gd ge aR aT aU aV aW ci cj ck cl cm cP gs gt gu gv gw hHeld ⊢
   refine pA 15 0 111 1 ?_ HT_ (by kernel_rfl) rfl rfl (fun _ _ _ h=>h) (by rfl) ?_ ?_ ?_ ?_
   rotate_left
   intro w'
   go_simp
   with_reducible rfl
   rotate_left
   simp only [Act.put,s1,s2,s3,i64_w,i32_w]
   rfl
   refine pA 15 2 113 5 ?_ HT_ (by kernel_rfl) rfl rfl (fun _ _ _ h=>h) (by rfl) ?_ ?_ ?_ ?_
   rotate_left
   intro w'
   go_simp
   with_reducible rfl
   rotate_left
   simp only [Act.put,s1,s2,s3,i64_w,i32_w]
   rfl
   refine pA 15 3 114 13 ?_ HT_ (by kernel_rfl) rfl rfl (fun _ _ _ h=>h) (by rfl) ?_ ?_ ?_ ?_
   rotate_left
   intro w'
   go_simp
   with_reducible rfl
   rotate_left
   simp only [Act.put,s1,s2,s3,i64_w,i32_w]
   rfl
   refine pA 15 4 115 29 ?_ HT_ (by kernel_rfl) rfl rfl (fun _ _ _ h=>h) (by rfl) ?_ ?_ ?_ ?_
   rotate_left
   intro w'
   go_simp
   with_reducible rfl
   rotate_left
   simp only [Act.put,s1,s2,s3,i64_w,i32_w]
   rfl
   refine pA 15 6 117 93 ?_ HT_ (by kernel_rfl) rfl rfl (fun _ _ _ h=>h) (by rfl) ?_ ?_ ?_ ?_
   rotate_left
   intro w'
   go_simp
   with_reducible rfl
   rotate_left
   simp only [Act.put,s1,s2,s3,i64_w,i32_w]
   rfl
   refine pT 15 1 112 95 ?_ HT_ HW_ (by kernel_rfl) rfl rfl (fun _ _ _ h=>h) (by rfl) ?_ hHeld ?_ ?_ ?_
   rotate_left
   rintro w' ⟨_,_,_,_,_,_,_,_,_⟩
   go_simp
   with_reducible rfl
   rotate_left
   simp only [Act.put,s1,s2,s3,i64_w,i32_w]
   rfl
   refine pT 15 5 116 127 ?_ HT_ HW_ (by kernel_rfl) rfl rfl (fun _ _ _ h=>h) (by rfl) ?_ hHeld ?_ ?_ ?_
   rotate_left
   rintro w' ⟨_,_,_,_,_,_,_,_,_⟩
   go_simp
   with_reducible rfl
   rotate_left
   simp only [Act.put,s1,s2,s3,i64_w,i32_w]
   rfl
   refine pA 15 7 118 255 ?_ HT_ (by kernel_rfl) rfl rfl (fun _ _ _ h=>h) (by rfl) ?_ ?_ ?_ ?_
   rotate_left
   intro w'
   go_simp
   with_reducible rfl
   rotate_left
   simp only [Act.put,s1,s2,s3,i64_w,i32_w]
   rfl
   refine pA 15 8 119 511 ?_ HT_ (by kernel_rfl) rfl rfl (fun _ _ _ h=>h) (by rfl) ?_ ?_ ?_ ?_
   rotate_left
   intro w'
   go_simp
   with_reducible rfl
   rotate_left
   simp only [Act.put,s1,s2,s3,i64_w,i32_w]
   rfl
   refine pT 15 9 120 1023 ?_ HT_ HW_ (by kernel_rfl) rfl rfl (fun _ _ _ h=>h) (by rfl) ?_ hHeld ?_ ?_ ?_
   rotate_left
   rintro w' ⟨_,_,_,_,_,_,_,_,_⟩
   go_simp
   with_reducible rfl
   rotate_left
   simp only [Act.put,s1,s2,s3,i64_w,i32_w]
   rfl
   refine pA 15 10 121 2047 ?_ HT_ (by kernel_rfl) rfl rfl (fun _ _ _ h=>h) (by rfl) ?_ ?_ ?_ ?_
   rotate_left
   intro w'
   go_simp
   with_reducible rfl
   rotate_left
   simp only [Act.put,s1,s2,s3,i64_w,i32_w]
   rfl
   refine pT 15 11 122 4095 ?_ HT_ HW_ (by kernel_rfl) rfl rfl (fun _ _ _ h=>h) (by rfl) ?_ hHeld ?_ ?_ ?_
   rotate_left
   rintro w' ⟨_,_,_,_,_,_,_,_,_⟩
   go_simp
   with_reducible rfl
   rotate_left
   simp only [Act.put,s1,s2,s3,i64_w,i32_w]
   rfl
   refine pA 15 12 123 8191 ?_ HT_ (by kernel_rfl) rfl rfl (fun _ _ _ h=>h) (by rfl) ?_ ?_ ?_ ?_
   rotate_left
   intro w'
   go_simp
   with_reducible rfl
   rotate_left
   simp only [Act.put,s1,s2,s3,i64_w,i32_w]
   rfl
   refine pA 15 13 124 16383 ?_ HT_ (by kernel_rfl) rfl rfl (fun _ _ _ h=>h) (by rfl) ?_ ?_ ?_ ?_
   rotate_left
   intro w'
   go_simp
   with_reducible rfl
   rotate_left
   simp only [Act.put,s1,s2,s3,i64_w,i32_w]
   rfl
   refine pL 15 14 32767 (none) HT_ (by kernel_rfl) rfl rfl (by decide) (fun K hK=>?_)
   refine skip_ (w1:=?_) (by rfl) rfl ?_ ?_
   rotate_left
   ·go_simp
    rfl
   refine hK.out _ _ ?_
   clear hK K
   refine done_ (done_of HT_.out (by kernel_rfl)) ?_
   try go_wp2
   go_roundg k3
   case measure=>have:=bS.out;have:=cD.out;have:=cM.out;omega
   case rel=>exact ⟨(wrap64 (ac+1)),(ny),(aJ),(.slice (some ⟨bk,0,none⟩) aa.length fb),(u322001),rfl,H',⟨by have:=bS.out;have:=cD.out;have:=cM.out;omega⟩,zR am fx (by decide) kb1,zR an fx (by decide) kb1,eQ,zM ad (fun _ hk=>fun e_=>hk (by rw [e_];rfl)) kb1,zb ag (zn ab ag (by decide)) kb1,zb ah (zn ab ah (by decide)) kb1,zb af (zn ab af (by decide)) kb1,⟨by repeat ((with_reducible first | exact HB.out | refine b_st ?_ lE.out))⟩⟩
  rw [if_neg ie] at H
  obtain ⟨ig,ih⟩:=cBf ie
  by_cases df:((rdQ aa ac).f0)=4
  ·rw [if_pos df] at H
   obtain ⟨fG,fH⟩:=cBt df
   clear df
   replace H:=iNd H
   obtain ⟨lI,H⟩:=H
   replace H:=iNd H
   obtain ⟨lJ,H⟩:=H
   obtain ⟨nz,dQ⟩:∃ y_:List (S35),y_=(aa.set (ac:Int).toNat (⟨(rdQ aa ac).f0,rd aD ((rdQ aa ac).f1),(rdQ aa ac).f2,(rdQ aa ac).f3,(rdQ aa ac).f4⟩:S35)):=⟨_,rfl⟩
   rw [← dQ] at H
   have hF:=Aside0.mk dQ
   clear dQ
   have H':=Aside0.mk H
   clear H
   have mB:=ao.out
   have mT:=al.out
   have mC:=av.out
   have mU:=ar.out
   refine qc3 af fun iX iY iZ jz jA jB=>?_
   obtain ⟨nD,fc,iq⟩:=Kd.R_slice ab.out
   subst iq
   obtain ⟨bN,cF,gC,gQ,aR,aT,aU,aV,aW⟩:=ro35 ab ac
   cases cF
   try go_wp2
   replace am:=qD am
   replace an:=qD an
   replace ab:=qD ab
   replace ad:=qD ad
   replace ag:=qr ag
   replace ah:=qr ah
   replace af:=qr af
   replace HB:=qd HB
   obtain ⟨hP,mg,pM,pR,cn,co,cp,cq,cr⟩:=ro35 ab ac
   obtain rfl:bN=hP:=(by injection mg)
   obtain ⟨nE,op,ir⟩:=Kd.R_slice am.out
   (subst ir)
   have gF:0≤(((rdQ aa ac).f1):Int):=od
   have gT:((rdQ aa ac).f1) < (aD.length:Int):=od
   obtain ⟨hQ,mh,cQ⟩:=Kd.at_int (Kd.R_reads' am.out).2.2 ((rdQ aa ac).f1) gF gT
   cases mh
   replace gF:=eq_true gF
   replace gT:=eq_true gT
   have gx:0≤(ac:Int):=od
   have gL:(ac:Int) < ((aa.length:Int):Int):=od
   obtain ⟨aK,oo,fe,fg,iI,ol,eL⟩:=Kd.R_form ab.out (by omega)
   (first | cases fe | (injection fe with ea_ en_ ec_;(fail);subst ec_;clear en_))
   have hi:=Aside0.mk fg
   have cZ:=Aside0.mk eL
   clear fg iI eL
   (simp only [add_plain] at aR)
   (simp only [add_plain] at aT)
   (simp only [add_plain] at aU)
   (simp only [add_plain] at aV)
   (simp only [add_plain] at aW)
   (simp only [add_plain] at cn)
   (simp only [add_plain] at co)
   (simp only [add_plain] at cp)
   (simp only [add_plain] at cq)
   (simp only [add_plain] at cr)
   obtain ⟨og,fR,fj,bI,bK⟩:=Kd.R_elem ab.out z35 (ac:Int) gx gL
   obtain rfl:=k35_openM fj
   have eA:World.cell? _ ⟨aK,(ac:Int).toNat*5,none⟩=some (.int .i64 ((rdQ aa ac).f0)):=bI 0 _ rfl
   have eB:World.cell? _ ⟨aK,(ac:Int).toNat*5+1,none⟩=some (.int .i64 ((rdQ aa ac).f1)):=bI 1 _ rfl
   have eC:World.cell? _ ⟨aK,(ac:Int).toNat*5+2,none⟩=some (.int .i64 ((rdQ aa ac).f2)):=bI 2 _ rfl
   have eD:World.cell? _ ⟨aK,(ac:Int).toNat*5+3,none⟩=some (.int .i64 ((rdQ aa ac).f3)):=bI 3 _ rfl
   have eE:World.cell? _ ⟨aK,(ac:Int).toNat*5+4,none⟩=some (.int .i64 ((rdQ aa ac).f4)):=bI 4 _ rfl
   have eg:World.frozen? _ ⟨aK,(ac:Int).toNat*5,none⟩=false:=bK 0
   have eh:World.frozen? _ ⟨aK,(ac:Int).toNat*5+1,none⟩=false:=bK 1
   have ei:World.frozen? _ ⟨aK,(ac:Int).toNat*5+2,none⟩=false:=bK 2
   have ej:World.frozen? _ ⟨aK,(ac:Int).toNat*5+3,none⟩=false:=bK 3
   have ek:World.frozen? _ ⟨aK,(ac:Int).toNat*5+4,none⟩=false:=bK 4
   clear fR bI bK fj
   replace gx:=eq_true gx
   replace gL:=eq_true gL
   obtain ⟨oh,du,fk,dq,gg⟩:=Kd.R_elem ab.out z35 (ac:Int) od (by have h_:(ac:Int) < ((aa.length:Int):Int):=od;(exact h_))
   obtain rfl:=k35_openM fk
   have dc:=(Kd.R_seg ab.out (ac:Int) od (by have h_:(ac:Int) < ((aa.length:Int):Int):=od;(exact h_)) (seg:=[.int .i64 (rd aD ((rdQ aa ac).f1))]) (j:=1) du dq (show 2≤5 from by decide) (x':=(⟨(rdQ aa ac).f0,rd aD ((rdQ aa ac).f1),(rdQ aa ac).f2,(rdQ aa ac).f3,(rdQ aa ac).f4⟩:S35)) (k35_mkM _ _ _ (⟨(rdQ aa ac).f0,rd aD ((rdQ aa ac).f1),(rdQ aa ac).f2,(rdQ aa ac).f3,(rdQ aa ac).f4⟩:S35) ) (fun _ hk=>hk)).1
   rw [← hF.out] at dc
   have eR:=Aside0.mk dc
   clear du dq gg fk dc
   refine start_ (n:=15) (S:=fun w'=>w'.cell? ⟨aA,0,none⟩=some (.slice (some ⟨aK,0,none⟩) aa.length fc)∧w'.cell? ⟨aA,1,none⟩=some (u322001)∧w'.cell? ⟨aA,2,none⟩=some (.slice none 0 0)∧w'.cell? ⟨aK,((ac).toNat*5),none⟩=some (.int .i64 ((rdQ aa ac).f0))∧w'.cell? ⟨aK,((ac).toNat*5)+1,none⟩=some (.int .i64 ((rdQ aa ac).f1))∧w'.cell? ⟨aK,((ac).toNat*5)+2,none⟩=some (.int .i64 ((rdQ aa ac).f2))∧w'.cell? ⟨aK,((ac).toNat*5)+3,none⟩=some (.int .i64 ((rdQ aa ac).f3))∧w'.cell? ⟨aK,((ac).toNat*5)+4,none⟩=some (.int .i64 ((rdQ aa ac).f4))∧w'.cell? (hQ.add (((rdQ aa ac).f1)).toNat)=some (.int .i64 (rd aD ((rdQ aa ac).f1)))) (ds:=[14]) (fl 15 0) (by kernel_rfl) rfl rfl ⟨(bk_c af.out 0).trans rfl,(bk_c af.out 1).trans rfl,(bk_c af.out 2).trans rfl,cn,co,cp,cq,cr,cQ⟩ (fun hHeld=>?_);refine with_tabW rfwithout.tab24 rfwithout.bits24 (fun HT_ HW_=>?_)
   generalize wr.drew=qf at am an ab ad ag ah af HB cZ eR eg eh ei ej ek eA eB eC eD eE aR aT aU aV aW cn co cp cq cr cQ hHeld ⊢
   refine pA 15 0 111 1 ?_ HT_ (by kernel_rfl) rfl rfl (fun _ _ _ h=>h) (by rfl) ?_ ?_ ?_ ?_
   rotate_left
   intro w'
   go_simp
   with_reducible rfl
   rotate_left
   simp only [Act.put,s1,s2,s3,i64_w,i32_w]
   rfl
   refine pA 15 2 113 5 ?_ HT_ (by kernel_rfl) rfl rfl (fun _ _ _ h=>h) (by rfl) ?_ ?_ ?_ ?_
   rotate_left
   intro w'
   go_simp
   with_reducible rfl
   rotate_left
   simp only [Act.put,s1,s2,s3,i64_w,i32_w]
   rfl
   refine pA 15 3 114 13 ?_ HT_ (by kernel_rfl) rfl rfl (fun _ _ _ h=>h) (by rfl) ?_ ?_ ?_ ?_
   rotate_left
   intro w'
   go_simp
   with_reducible rfl
   rotate_left
   simp only [Act.put,s1,s2,s3,i64_w,i32_w]
   rfl
   refine pA 15 4 115 29 ?_ HT_ (by kernel_rfl) rfl rfl (fun _ _ _ h=>h) (by rfl) ?_ ?_ ?_ ?_
   rotate_left
   intro w'
   go_simp
   with_reducible rfl
   rotate_left
   simp only [Act.put,s1,s2,s3,i64_w,i32_w]
   rfl
   refine pA 15 6 117 93 ?_ HT_ (by kernel_rfl) rfl rfl (fun _ _ _ h=>h) (by rfl) ?_ ?_ ?_ ?_
   rotate_left
   intro w'
   go_simp
   with_reducible rfl
   rotate_left
   simp only [Act.put,s1,s2,s3,i64_w,i32_w]
   rfl
   refine pT 15 1 112 95 ?_ HT_ HW_ (by kernel_rfl) rfl rfl (fun _ _ _ h=>h) (by rfl) ?_ hHeld ?_ ?_ ?_
   rotate_left
   rintro w' ⟨_,_,_,_,_,_,_,_,_⟩
   go_simp
   with_reducible rfl
   rotate_left
   simp only [Act.put,s1,s2,s3,i64_w,i32_w]
   rfl
   refine pT 15 5 116 127 ?_ HT_ HW_ (by kernel_rfl) rfl rfl (fun _ _ _ h=>h) (by rfl) ?_ hHeld ?_ ?_ ?_
   rotate_left
   rintro w' ⟨_,_,_,_,_,_,_,_,_⟩
   go_simp
   with_reducible rfl
   rotate_left
   simp only [Act.put,s1,s2,s3,i64_w,i32_w]
   rfl
   refine pA 15 7 118 255 ?_ HT_ (by kernel_rfl) rfl rfl (fun _ _ _ h=>h) (by rfl) ?_ ?_ ?_ ?_
   rotate_left
   intro w'
   go_simp
   with_reducible rfl
   rotate_left
   simp only [Act.put,s1,s2,s3,i64_w,i32_w]
   rfl
   refine pA 15 8 119 511 ?_ HT_ (by kernel_rfl) rfl rfl (fun _ _ _ h=>h) (by rfl) ?_ ?_ ?_ ?_
   rotate_left
   intro w'
   go_simp
   with_reducible rfl
   rotate_left
   simp only [Act.put,s1,s2,s3,i64_w,i32_w]
   rfl
   refine pT 15 9 120 1023 ?_ HT_ HW_ (by kernel_rfl) rfl rfl (fun _ _ _ h=>h) (by rfl) ?_ hHeld ?_ ?_ ?_
   rotate_left
   rintro w' ⟨_,_,_,_,_,_,_,_,_⟩
   go_simp
   with_reducible rfl
   rotate_left
   simp only [Act.put,s1,s2,s3,i64_w,i32_w]
   rfl
   refine pA 15 10 121 2047 ?_ HT_ (by kernel_rfl) rfl rfl (fun _ _ _ h=>h) (by rfl) ?_ ?_ ?_ ?_
   rotate_left
   intro w'
   go_simp
   with_reducible rfl
   rotate_left
   simp only [Act.put,s1,s2,s3,i64_w,i32_w]
   rfl
   refine pT 15 11 122 4095 ?_ HT_ HW_ (by kernel_rfl) rfl rfl (fun _ _ _ h=>h) (by rfl) ?_ hHeld ?_ ?_ ?_
   rotate_left
   rintro w' ⟨_,_,_,_,_,_,_,_,_⟩
   go_simp
   with_reducible rfl
   rotate_left
   simp only [Act.put,s1,s2,s3,i64_w,i32_w]
   rfl
   refine pA 15 12 123 8191 ?_ HT_ (by kernel_rfl) rfl rfl (fun _ _ _ h=>h) (by rfl) ?_ ?_ ?_ ?_
   rotate_left
   intro w'
   go_simp
   with_reducible rfl
   rotate_left
   simp only [Act.put,s1,s2,s3,i64_w,i32_w]
   rfl
   refine pA 15 13 124 16383 ?_ HT_ (by kernel_rfl) rfl rfl (fun _ _ _ h=>h) (by rfl) ?_ ?_ ?_ ?_
   rotate_left
   intro w'
   go_simp
   with_reducible rfl
   rotate_left
   simp only [Act.put,s1,s2,s3,i64_w,i32_w]
   rfl
   refine pL 15 14 32767 (none) HT_ (by kernel_rfl) rfl rfl (by decide) (fun K hK=>?_)
   refine skip_ (w1:=?_) (by rfl) rfl ?_ ?_
   rotate_left
   ·go_simp
    rfl
   refine hK.out _ _ ?_
   clear hK K
   refine done_ (done_of HT_.out (by kernel_rfl)) ?_
   try go_wp2
   go_roundg k3
   case measure=>have:=bS.out;have:=cD.out;have:=cM.out;omega
   case rel=>exact ⟨(wrap64 (ac+1)),(nz),(aJ),(.slice (some ⟨aK,0,none⟩) aa.length fc),(u322001),rfl,H',⟨by have:=bS.out;have:=cD.out;have:=cM.out;omega⟩,zR am cZ (by decide) kb1,zR an cZ (by decide) kb1,eR,zM ad (fun _ hk=>fun e_=>hk (by rw [e_];rfl)) kb1,zb ag (zn ab ag (by decide)) kb1,zb ah (zn ab ah (by decide)) kb1,zb af (zn ab af (by decide)) kb1,⟨by repeat ((with_reducible first | exact HB.out | refine b_st ?_ hi.out))⟩⟩
  rw [if_neg df] at H
  obtain ⟨fG,fH⟩:=cBf df
  have H':=Aside0.mk H
  clear H
  have mD:=ao.out
  have mV:=al.out
  have mE:=av.out
  have mW:=ar.out
  refine qc3 af fun ja jb jc jC jD jE=>?_
  obtain ⟨nF,ii,it⟩:=Kd.R_slice ab.out
  subst it
  obtain ⟨bN,cF,gC,gQ,aR,aT,aU,aV,aW⟩:=ro35 ab ac
  cases cF
  go_wp2
  go_roundg k3
  case measure=>have:=bS.out;have:=cD.out;have:=cM.out;omega
  case rel=>exact ⟨(wrap64 (ac+1)),(aa),(aJ),(.slice (some bN) aa.length ii),(u322001),rfl,H',⟨by have:=bS.out;have:=cD.out;have:=cM.out;omega⟩,am,an,ab,ad,ag,ah,af,HB⟩
 rw [if_neg he] at H
 have fa:=decide_eq_false he
 clear he
 have H':=Aside0.mk H
 clear H
 have mF:=ao.out
 have mX:=al.out
 have mG:=av.out
 have mY:=ar.out
 refine qc3 af fun dw dx dy dC dD dE=>?_
 obtain ⟨hf,ij,iu⟩:=Kd.R_slice ab.out
 subst iu
 go_wp2
 go_loopg [13] k3 (fun kq pW w'=>∃ (aj:Int) (az:List (S35)) (ae:List (S35)) (u322000:Value) (u322001:Value),pW=.int .i64 aj∧Aside0 (rfwithout.l3 kq aD aI aj au aw aC az ae=some (r1,r2,r3))∧Aside0 (kq≤k3)∧Aside0 (Kd.R (Kd.int .i64) 3 w' w.heap.size (fun k_=>some k_≠(cV:Value).ownBlock) bW aD)∧Aside0 (Kd.R (Kd.int .i64) 3 w' w.heap.size (fun k_=>some k_≠(bW:Value).ownBlock) cV aI)∧Aside0 (Kd.R k35 35 w' w.heap.size (fun k_=>some k_≠(u322001:Value).ownBlock) u322000 az)∧Aside0 (Kd.R k35 35 w' w.heap.size (fun k_=>some k_≠(u322000:Value).ownBlock) u322001 ae)∧Aside0 (w'.heap[aY]?=some (.cells #[(.slice bT au.length bO),(.slice bU aw.length bP),(.slice bV aC.length bQ)] 30 (0,0)))∧Aside0 (w'.heap[aX]?=some (.cells #[(.slice none 0 0),(.slice none 0 0),(.slice none 0 0)] 30 (0,0)))∧Aside0 (w'.heap[aA]?=some (.cells #[u322000,u322001,(.slice none 0 0)] 30 (0,0)))∧Aside0 (Below w.heap.size w w'))
 case atStart=>exact ⟨(0),(aa),(aJ),(.slice hf aa.length ij),(u322001),rfl,H',⟨Nat.le_refl _⟩,am,an,ab,ad,ag,ah,af,HB⟩
 clear H'
 clear fa dw dx dy dC dD dE
 obtain ⟨aj,az,ae,u322000,u322001,rfl,HA,gZ,am,an,ab,ad,ag,ah,af,HB⟩:=hrel
 obtain _ | k4:=gk
 ·exact absurd HA.out (by simp [rfwithout.l3])
 have H:=HA.out
 clear HA
 simp only [rfwithout.l3] at H
 by_cases cT:aj < (ae.length:Int)
 ·rw [if_pos cT] at H
  have dg:=decide_eq_true cT
  clear cT
  replace H:=iNd H
  obtain ⟨lK,H⟩:=H
  by_cases dh:((rdQ ae aj).f0)=16
  ·rw [if_pos dh] at H
   obtain ⟨fI,fJ⟩:=cBt dh
   clear dh
   replace H:=iNd H
   obtain ⟨lL,H⟩:=H
   replace H:=iNd H
   obtain ⟨lM,H⟩:=H
   obtain ⟨nA,dR⟩:∃ y_:List (S35),y_=(ae.set (aj:Int).toNat (⟨(rdQ ae aj).f0,(rdQ ae aj).f1,rd aI ((rdQ ae aj).f2),(rdQ ae aj).f3,(rdQ ae aj).f4⟩:S35)):=⟨_,rfl⟩
   rw [← dR] at H
   have hG:=Aside0.mk dR
   clear dR
   have H':=Aside0.mk H
   clear H
   have mH:=ao.out
   have mZ:=al.out
   have mI:=av.out
   have na:=ar.out
   refine qc3 af fun jd je jf jF jG jH=>?_
   obtain ⟨nG,fd,iv⟩:=Kd.R_slice ad.out
   subst iv
   obtain ⟨de,fO,nk,nn,ct,cu,cv,cw,cx⟩:=ro35 ad aj
   cases fO
   try go_wp2
   replace am:=qD am
   replace an:=qD an
   replace ab:=qD ab
   replace ad:=qD ad
   replace ag:=qr ag
   replace ah:=qr ah
   replace af:=qr af
   replace HB:=qd HB
   obtain ⟨hR,mi,pN,pS,cy,cz,cA,cB,cC⟩:=ro35 ad aj
   obtain rfl:de=hR:=(by injection mi)
   obtain ⟨nH,os,iw⟩:=Kd.R_slice an.out
   (subst iw)
   have gG:0≤(((rdQ ae aj).f2):Int):=od
   have gU:((rdQ ae aj).f2) < (aI.length:Int):=od
   obtain ⟨hS,mj,cR⟩:=Kd.at_int (Kd.R_reads' an.out).2.2 ((rdQ ae aj).f2) gG gU
   cases mj
   replace gG:=eq_true gG
   replace gU:=eq_true gU
   have gy:0≤(aj:Int):=od
   have gM:(aj:Int) < ((ae.length:Int):Int):=od
   obtain ⟨aM,oq,ff,fh,iJ,om,eM⟩:=Kd.R_form ad.out (by omega)
   (first | cases ff | (injection ff with ea_ en_ ec_;(fail);subst ec_;clear en_))
   have hj:=Aside0.mk fh
   have da:=Aside0.mk eM
   clear fh iJ eM
   (simp only [add_plain] at ct)
   (simp only [add_plain] at cu)
   (simp only [add_plain] at cv)
   (simp only [add_plain] at cw)
   (simp only [add_plain] at cx)
   (simp only [add_plain] at cy)
   (simp only [add_plain] at cz)
   (simp only [add_plain] at cA)
   (simp only [add_plain] at cB)
   (simp only [add_plain] at cC)
   obtain ⟨oi,fS,fm,bJ,bL⟩:=Kd.R_elem ad.out z35 (aj:Int) gy gM
   obtain rfl:=k35_openM fm
   have eF:World.cell? _ ⟨aM,(aj:Int).toNat*5,none⟩=some (.int .i64 ((rdQ ae aj).f0)):=bJ 0 _ rfl
   have eG:World.cell? _ ⟨aM,(aj:Int).toNat*5+1,none⟩=some (.int .i64 ((rdQ ae aj).f1)):=bJ 1 _ rfl
   have eH:World.cell? _ ⟨aM,(aj:Int).toNat*5+2,none⟩=some (.int .i64 ((rdQ ae aj).f2)):=bJ 2 _ rfl
   have eI:World.cell? _ ⟨aM,(aj:Int).toNat*5+3,none⟩=some (.int .i64 ((rdQ ae aj).f3)):=bJ 3 _ rfl
   have eJ:World.cell? _ ⟨aM,(aj:Int).toNat*5+4,none⟩=some (.int .i64 ((rdQ ae aj).f4)):=bJ 4 _ rfl
   have el:World.frozen? _ ⟨aM,(aj:Int).toNat*5,none⟩=false:=bL 0
   have em:World.frozen? _ ⟨aM,(aj:Int).toNat*5+1,none⟩=false:=bL 1
   have en:World.frozen? _ ⟨aM,(aj:Int).toNat*5+2,none⟩=false:=bL 2
   have eo:World.frozen? _ ⟨aM,(aj:Int).toNat*5+3,none⟩=false:=bL 3
   have ep:World.frozen? _ ⟨aM,(aj:Int).toNat*5+4,none⟩=false:=bL 4
   clear fS bJ bL fm
   replace gy:=eq_true gy
   replace gM:=eq_true gM
   obtain ⟨oj,dv,fn,dr,gh⟩:=Kd.R_elem ad.out z35 (aj:Int) od (by have h_:(aj:Int) < ((ae.length:Int):Int):=od;(exact h_))
   obtain rfl:=k35_openM fn
   have dd:=(Kd.R_seg ad.out (aj:Int) od (by have h_:(aj:Int) < ((ae.length:Int):Int):=od;(exact h_)) (seg:=[.int .i64 (rd aI ((rdQ ae aj).f2))]) (j:=2) dv dr (show 3≤5 from by decide) (x':=(⟨(rdQ ae aj).f0,(rdQ ae aj).f1,rd aI ((rdQ ae aj).f2),(rdQ ae aj).f3,(rdQ ae aj).f4⟩:S35)) (k35_mkM _ _ _ (⟨(rdQ ae aj).f0,(rdQ ae aj).f1,rd aI ((rdQ ae aj).f2),(rdQ ae aj).f3,(rdQ ae aj).f4⟩:S35) ) (fun _ hk=>hk)).1
   rw [← hG.out] at dd
   have eS:=Aside0.mk dd
   clear dv dr gh fn dd
   refine start_ (n:=15) (S:=fun w'=>w'.cell? ⟨aA,0,none⟩=some (u322000)∧w'.cell? ⟨aA,1,none⟩=some (.slice (some ⟨aM,0,none⟩) ae.length fd)∧w'.cell? ⟨aA,2,none⟩=some (.slice none 0 0)∧w'.cell? ⟨aM,((aj).toNat*5),none⟩=some (.int .i64 ((rdQ ae aj).f0))∧w'.cell? ⟨aM,((aj).toNat*5)+1,none⟩=some (.int .i64 ((rdQ ae aj).f1))∧w'.cell? ⟨aM,((aj).toNat*5)+2,none⟩=some (.int .i64 ((rdQ ae aj).f2))∧w'.cell? ⟨aM,((aj).toNat*5)+3,none⟩=some (.int .i64 ((rdQ ae aj).f3))∧w'.cell? ⟨aM,((aj).toNat*5)+4,none⟩=some (.int .i64 ((rdQ ae aj).f4))∧w'.cell? (hS.add (((rdQ ae aj).f2)).toNat)=some (.int .i64 (rd aI ((rdQ ae aj).f2)))) (ds:=[14]) (fl 15 0) (by kernel_rfl) rfl rfl ⟨(bk_c af.out 0).trans rfl,(bk_c af.out 1).trans rfl,(bk_c af.out 2).trans rfl,cy,cz,cA,cB,cC,cR⟩ (fun hHeld=>?_);refine with_tabW rfwithout.tab29 rfwithout.bits29 (fun HT_ HW_=>?_)
   generalize wr.drew=qh at am an ab ad ag ah af HB da eS el em en eo ep eF eG eH eI eJ ct cu cv cw cx cy cz cA cB cC cR hHeld ⊢
   refine pA 15 0 139 1 ?_ HT_ (by kernel_rfl) rfl rfl (fun _ _ _ h=>h) (by rfl) ?_ ?_ ?_ ?_
   rotate_left
   intro w'
   go_simp
   with_reducible rfl
   rotate_left
   simp only [Act.put,s1,s2,s3,i64_w,i32_w]
   rfl
   refine pA 15 2 141 5 ?_ HT_ (by kernel_rfl) rfl rfl (fun _ _ _ h=>h) (by rfl) ?_ ?_ ?_ ?_
   rotate_left
   intro w'
   go_simp
   with_reducible rfl
   rotate_left
   simp only [Act.put,s1,s2,s3,i64_w,i32_w]
   rfl
   refine pA 15 3 142 13 ?_ HT_ (by kernel_rfl) rfl rfl (fun _ _ _ h=>h) (by rfl) ?_ ?_ ?_ ?_
   rotate_left
   intro w'
   go_simp
   with_reducible rfl
   rotate_left
   simp only [Act.put,s1,s2,s3,i64_w,i32_w]
   rfl
   refine pA 15 4 143 29 ?_ HT_ (by kernel_rfl) rfl rfl (fun _ _ _ h=>h) (by rfl) ?_ ?_ ?_ ?_
   rotate_left
   intro w'
   go_simp
   with_reducible rfl
   rotate_left
   simp only [Act.put,s1,s2,s3,i64_w,i32_w]
   rfl
   refine pA 15 6 145 93 ?_ HT_ (by kernel_rfl) rfl rfl (fun _ _ _ h=>h) (by rfl) ?_ ?_ ?_ ?_
   rotate_left
   intro w'
   go_simp
   with_reducible rfl
   rotate_left
   simp only [Act.put,s1,s2,s3,i64_w,i32_w]
   rfl
   refine pT 15 1 140 95 ?_ HT_ HW_ (by kernel_rfl) rfl rfl (fun _ _ _ h=>h) (by rfl) ?_ hHeld ?_ ?_ ?_
   rotate_left
   rintro w' ⟨_,_,_,_,_,_,_,_,_⟩
   go_simp
   with_reducible rfl
   rotate_left
   simp only [Act.put,s1,s2,s3,i64_w,i32_w]
   rfl
   refine pT 15 5 144 127 ?_ HT_ HW_ (by kernel_rfl) rfl rfl (fun _ _ _ h=>h) (by rfl) ?_ hHeld ?_ ?_ ?_
   rotate_left
   rintro w' ⟨_,_,_,_,_,_,_,_,_⟩
   go_simp
   with_reducible rfl
   rotate_left
   simp only [Act.put,s1,s2,s3,i64_w,i32_w]
   rfl
   refine pA 15 7 146 255 ?_ HT_ (by kernel_rfl) rfl rfl (fun _ _ _ h=>h) (by rfl) ?_ ?_ ?_ ?_
   rotate_left
   intro w'
   go_simp
   with_reducible rfl
   rotate_left
   simp only [Act.put,s1,s2,s3,i64_w,i32_w]
   rfl
   refine pA 15 8 147 511 ?_ HT_ (by kernel_rfl) rfl rfl (fun _ _ _ h=>h) (by rfl) ?_ ?_ ?_ ?_
   rotate_left
   intro w'
   go_simp
   with_reducible rfl
   rotate_left
   simp only [Act.put,s1,s2,s3,i64_w,i32_w]
   rfl
   refine pT 15 9 148 1023 ?_ HT_ HW_ (by kernel_rfl) rfl rfl (fun _ _ _ h=>h) (by rfl) ?_ hHeld ?_ ?_ ?_
   rotate_left
   rintro w' ⟨_,_,_,_,_,_,_,_,_⟩
   go_simp
   with_reducible rfl
   rotate_left
   simp only [Act.put,s1,s2,s3,i64_w,i32_w]
   rfl
   refine pA 15 10 149 2047 ?_ HT_ (by kernel_rfl) rfl rfl (fun _ _ _ h=>h) (by rfl) ?_ ?_ ?_ ?_
   rotate_left
   intro w'
   go_simp
   with_reducible rfl
   rotate_left
   simp only [Act.put,s1,s2,s3,i64_w,i32_w]
   rfl
   refine pT 15 11 150 4095 ?_ HT_ HW_ (by kernel_rfl) rfl rfl (fun _ _ _ h=>h) (by rfl) ?_ hHeld ?_ ?_ ?_
   rotate_left
   rintro w' ⟨_,_,_,_,_,_,_,_,_⟩
   go_simp
   with_reducible rfl
   rotate_left
   simp only [Act.put,s1,s2,s3,i64_w,i32_w]
   rfl
   refine pA 15 12 151 8191 ?_ HT_ (by kernel_rfl) rfl rfl (fun _ _ _ h=>h) (by rfl) ?_ ?_ ?_ ?_
   rotate_left
   intro w'
   go_simp
   with_reducible rfl
   rotate_left
   simp only [Act.put,s1,s2,s3,i64_w,i32_w]
   rfl
   refine pA 15 13 152 16383 ?_ HT_ (by kernel_rfl) rfl rfl (fun _ _ _ h=>h) (by rfl) ?_ ?_ ?_ ?_
   rotate_left
   intro w'
   go_simp
   with_reducible rfl
   rotate_left
   simp only [Act.put,s1,s2,s3,i64_w,i32_w]
   rfl
   refine pL 15 14 32767 (none) HT_ (by kernel_rfl) rfl rfl (by decide) (fun K hK=>?_)
   refine skip_ (w1:=?_) (by rfl) rfl ?_ ?_
   rotate_left
   ·go_simp
    rfl
   refine hK.out _ _ ?_
   clear hK K
   refine done_ (done_of HT_.out (by kernel_rfl)) ?_
   try go_wp2
   go_roundg k4
   case measure=>have:=bS.out;have:=cD.out;have:=cM.out;have:=gZ.out;omega
   case rel=>exact ⟨(wrap64 (aj+1)),(az),(nA),(u322000),(.slice (some ⟨aM,0,none⟩) ae.length fd),rfl,H',⟨by have:=bS.out;have:=cD.out;have:=cM.out;have:=gZ.out;omega⟩,zR am da (by decide) kb1,zR an da (by decide) kb1,zM ab (fun _ hk=>fun e_=>hk (by rw [e_];rfl)) kb1,eS,zb ag (zn ad ag (by decide)) kb1,zb ah (zn ad ah (by decide)) kb1,zb af (zn ad af (by decide)) kb1,⟨by repeat ((with_reducible first | exact HB.out | refine b_st ?_ hj.out))⟩⟩
  rw [if_neg dh] at H
  obtain ⟨fI,fJ⟩:=cBf dh
  have H':=Aside0.mk H
  clear H
  have mJ:=ao.out
  have nb:=al.out
  have mK:=av.out
  have nc:=ar.out
  refine qc3 af fun jg jh ji jI jJ jK=>?_
  obtain ⟨nI,ik,ix⟩:=Kd.R_slice ad.out
  subst ix
  obtain ⟨de,fO,nk,nn,ct,cu,cv,cw,cx⟩:=ro35 ad aj
  cases fO
  go_wp2
  go_roundg k4
  case measure=>have:=bS.out;have:=cD.out;have:=cM.out;have:=gZ.out;omega
  case rel=>exact ⟨(wrap64 (aj+1)),(az),(ae),(u322000),(.slice (some de) ae.length ik),rfl,H',⟨by have:=bS.out;have:=cD.out;have:=cM.out;have:=gZ.out;omega⟩,am,an,ab,ad,ag,ah,af,HB⟩
 rw [if_neg cT] at H
 have dg:=decide_eq_false cT
 clear cT
 have H':=Aside0.mk H
 clear H
 have mL:=ao.out
 have nd:=al.out
 have mM:=av.out
 have ne:=ar.out
 refine qc3 af fun dz dA dB dF dG dH=>?_
 obtain ⟨bp,bs,iy⟩:=Kd.R_slice ad.out
 subst iy
 go_wp2
 go_loopg [14] k4 (fun kq pX w'=>∃ (ax:Int) (aH:List (S37)) (u322002:Value),pX=.int .i64 ax∧Aside0 (rfwithout.l4 kq aD ax au aw aC az ae aH=some (r1,r2,r3))∧Aside0 (kq≤k4)∧Aside0 (Kd.R (Kd.int .i64) 3 w' w.heap.size (fun _=>True) bW aD)∧Aside0 (Kd.R k35 35 w' w.heap.size (fun k_=>some k_≠((.slice bp ae.length bs):Value).ownBlock) u322000 az)∧Aside0 (Kd.R k35 35 w' w.heap.size (fun k_=>some k_≠(u322000:Value).ownBlock) (.slice bp ae.length bs) ae)∧Aside0 (Kd.R k37 37 w' w.heap.size (fun _=>True) u322002 aH)∧Aside0 (w'.heap[aY]?=some (.cells #[(.slice bT au.length bO),(.slice bU aw.length bP),(.slice bV aC.length bQ)] 30 (0,0)))∧Aside0 (w'.heap[aX]?=some (.cells #[(.slice none 0 0),(.slice none 0 0),(.slice none 0 0)] 30 (0,0)))∧Aside0 (w'.heap[aA]?=some (.cells #[u322000,(.slice bp ae.length bs),u322002] 30 (0,0)))∧Aside0 (Below w.heap.size w w'))
 case atStart=>exact ⟨(0),(([]:List (S37))),(.slice none 0 0),rfl,H',⟨Nat.le_refl _⟩,⟨by exact Kd.R_mono am.out (fun _ hk=>trivial)⟩,ab,ad,⟨by (exact Kd.R_nil _ _ _ _ _)⟩,ag,ah,af,HB⟩
 clear H'
 clear dg dz dA dB dF dG dH
 obtain ⟨ax,aH,u322002,rfl,HA,nO,am,ab,ad,ay,ag,ah,af,HB⟩:=hrel
 obtain _ | k5:=gk
 ·exact absurd HA.out (by simp [rfwithout.l4])
 have H:=HA.out
 clear HA
 simp only [rfwithout.l4] at H
 by_cases cU:ax < (aC.length:Int)
 ·rw [if_pos cU] at H
  have fK:=decide_eq_true cU
  clear cU
  replace H:=iNd H
  obtain ⟨lN,H⟩:=H
  replace H:=iNd H
  obtain ⟨lO,H⟩:=H
  replace H:=iNd H
  obtain ⟨lP,H⟩:=H
  replace H:=iN H
  obtain ⟨hV,H⟩:=H
  have fF:=Aside0.mk hV
  clear hV
  obtain ⟨ke,dS⟩:∃ y_:List (S37),y_=(aH ++ [(⟨(rdR aC ax).f0,rd aD ((rdR aC ax).f1)⟩:S37)]):=⟨_,rfl⟩
  rw [← dS] at H
  have hH:=Aside0.mk dS
  clear dS
  have H':=Aside0.mk H
  clear H
  have mN:=aE.out
  have nf:=aG.out
  have mO:=al.out
  have ng:=ao.out
  refine qc3 ag fun jj jk jl jL jM jN=>?_
  try go_wp2
  replace am:=qD am
  replace ab:=qD ab
  replace ad:=qD ad
  replace ay:=qD ay
  replace ag:=qr ag
  replace ah:=qr ah
  replace af:=qr af
  replace HB:=qd HB
  have gH:0≤(ax:Int):=od
  have gV:ax < (aC.length:Int):=od
  obtain ⟨bM,ml,bE,bF⟩:=at_T37 eT.out ax gH gV
  have bm:=bF
  have bl:=bE
  cases ml
  replace bE:=(HB.out.cell (World.block_lt_of_cell? w _ bE)).trans bE
  replace bF:=(HB.out.cell (World.block_lt_of_cell? w _ bF)).trans bF
  replace gH:=eq_true gH
  replace gV:=eq_true gV
  have gI:0≤(ax:Int):=od
  have gW:ax < (aC.length:Int):=od
  obtain ⟨hT,mm,bG,bH⟩:=at_T37 eT.out ax gI gW
  have bo:=bH
  have bn:=bG
  obtain rfl:bM=hT:=(by injection mm)
  replace bG:=(HB.out.cell (World.block_lt_of_cell? w _ bG)).trans bG
  replace bH:=(HB.out.cell (World.block_lt_of_cell? w _ bH)).trans bH
  replace gI:=eq_true gI
  replace gW:=eq_true gW
  obtain ⟨nJ,ot,iz⟩:=Kd.R_slice am.out
  (subst iz)
  have gJ:0≤(((rdR aC ax).f1):Int):=od
  have gX:((rdR aC ax).f1) < (aD.length:Int):=od
  obtain ⟨hU,mn,cS⟩:=Kd.at_int (Kd.R_reads' am.out).2.2 ((rdR aC ax).f1) gJ gX
  cases mn
  replace gJ:=eq_true gJ
  replace gX:=eq_true gX
  refine start_ (n:=22) (S:=fun w'=>w'.cell? ⟨aA,0,none⟩=some (u322000)∧w'.cell? ⟨aA,1,none⟩=some (.slice bp ae.length bs)∧w'.cell? ⟨aA,2,none⟩=some (u322002)∧w'.cell? ⟨aY,0,none⟩=some (.slice bT au.length bO)∧w'.cell? ⟨aY,1,none⟩=some (.slice bU aw.length bP)∧w'.cell? ⟨aY,2,none⟩=some (.slice (some bM) aC.length bQ)∧w'.cell? (bM.add ((ax).toNat*2))=some (.int .i64 ((rdR aC ax).f0))∧w'.cell? ⟨(bM.add ((ax).toNat*2)).block,(bM.add ((ax).toNat*2)).off+1,none⟩=some (.int .i64 ((rdR aC ax).f1))∧w'.cell? (bM.add ((ax).toNat*2))=some (.int .i64 ((rdR aC ax).f0))∧w'.cell? ⟨(bM.add ((ax).toNat*2)).block,(bM.add ((ax).toNat*2)).off+1,none⟩=some (.int .i64 ((rdR aC ax).f1))∧w'.cell? (hU.add (((rdR aC ax).f1)).toNat)=some (.int .i64 (rd aD ((rdR aC ax).f1)))) (ds:=[19,21]) (fl 22 0) (by kernel_rfl) rfl rfl ⟨(bk_c af.out 0).trans rfl,(bk_c af.out 1).trans rfl,(bk_c af.out 2).trans rfl,(bk_c ag.out 0).trans rfl,(bk_c ag.out 1).trans rfl,(bk_c ag.out 2).trans rfl,((HB.out.cell (World.block_lt_of_cell? w _ bl)).trans bl),((HB.out.cell (World.block_lt_of_cell? w _ bm)).trans bm),((HB.out.cell (World.block_lt_of_cell? w _ bn)).trans bn),((HB.out.cell (World.block_lt_of_cell? w _ bo)).trans bo),cS⟩ (fun hHeld=>?_);refine with_tabW rfwithout.tab33 rfwithout.bits33 (fun HT_ HW_=>?_)
  generalize wr.drew=qi at am ab ad ay ag ah af HB bE bF bG bH cS hHeld ⊢
  refine pA 22 0 160 1 ?_ HT_ (by kernel_rfl) rfl rfl (fun _ _ _ h=>h) (by rfl) ?_ ?_ ?_ ?_
  rotate_left
  intro w'
  go_simp
  with_reducible rfl
  rotate_left
  simp only [Act.put,s1,s2,s3,i64_w,i32_w]
  rfl
  refine pA 22 2 162 5 ?_ HT_ (by kernel_rfl) rfl rfl (fun _ _ _ h=>h) (by rfl) ?_ ?_ ?_ ?_
  rotate_left
  intro w'
  go_simp
  with_reducible rfl
  rotate_left
  simp only [Act.put,s1,s2,s3,i64_w,i32_w]
  rfl
  refine pA 22 4 164 21 ?_ HT_ (by kernel_rfl) rfl rfl (fun _ _ _ h=>h) (by rfl) ?_ ?_ ?_ ?_
  rotate_left
  intro w'
  go_simp
  with_reducible rfl
  rotate_left
  simp only [Act.put,s1,s2,s3,i64_w,i32_w]
  rfl
  refine pA 22 8 168 277 ?_ HT_ (by kernel_rfl) rfl rfl (fun _ _ _ h=>h) (by rfl) ?_ ?_ ?_ ?_
  rotate_left
  intro w'
  go_simp
  with_reducible rfl
  rotate_left
  simp only [Act.put,s1,s2,s3,i64_w,i32_w]
  rfl
  refine pA 22 9 169 789 ?_ HT_ (by kernel_rfl) rfl rfl (fun _ _ _ h=>h) (by rfl) ?_ ?_ ?_ ?_
  rotate_left
  intro w'
  go_simp
  with_reducible rfl
  rotate_left
  simp only [Act.put,s1,s2,s3,i64_w,i32_w]
  rfl
  refine pA 22 11 171 2837 ?_ HT_ (by kernel_rfl) rfl rfl (fun _ _ _ h=>h) (by rfl) ?_ ?_ ?_ ?_
  rotate_left
  intro w'
  go_simp
  with_reducible rfl
  rotate_left
  simp only [Act.put,s1,s2,s3,i64_w,i32_w]
  rfl
  refine pT 22 1 161 2839 ?_ HT_ HW_ (by kernel_rfl) rfl rfl (fun _ _ _ h=>h) (by rfl) ?_ hHeld ?_ ?_ ?_
  rotate_left
  rintro w' ⟨_,_,_,_,_,_,_,_,_,_,_⟩
  go_simp
  with_reducible rfl
  rotate_left
  simp only [Act.put,s1,s2,s3,i64_w,i32_w]
  rfl
  refine pT 22 3 163 2847 ?_ HT_ HW_ (by kernel_rfl) rfl rfl (fun _ _ _ h=>h) (by rfl) ?_ hHeld ?_ ?_ ?_
  rotate_left
  rintro w' ⟨_,_,_,_,_,_,_,_,_,_,_⟩
  go_simp
  with_reducible rfl
  rotate_left
  simp only [Act.put,s1,s2,s3,i64_w,i32_w]
  rfl
  refine pA 22 5 165 2879 ?_ HT_ (by kernel_rfl) rfl rfl (fun _ _ _ h=>h) (by rfl) ?_ ?_ ?_ ?_
  rotate_left
  intro w'
  go_simp
  with_reducible rfl
  rotate_left
  simp only [Act.put,s1,s2,s3,i64_w,i32_w]
  rfl
  refine pA 22 6 166 2943 ?_ HT_ (by kernel_rfl) rfl rfl (fun _ _ _ h=>h) (by rfl) ?_ ?_ ?_ ?_
  rotate_left
  intro w'
  go_simp
  with_reducible rfl
  rotate_left
  simp only [Act.put,s1,s2,s3,i64_w,i32_w]
  rfl
  refine pT 22 7 167 3071 ?_ HT_ HW_ (by kernel_rfl) rfl rfl (fun _ _ _ h=>h) (by rfl) ?_ hHeld ?_ ?_ ?_
  rotate_left
  rintro w' ⟨_,_,_,_,_,_,_,_,_,_,_⟩
  go_simp
  with_reducible rfl
  rotate_left
  simp only [Act.put,s1,s2,s3,i64_w,i32_w]
  rfl
  refine pT 22 10 170 4095 ?_ HT_ HW_ (by kernel_rfl) rfl rfl (fun _ _ _ h=>h) (by rfl) ?_ hHeld ?_ ?_ ?_
  rotate_left
  rintro w' ⟨_,_,_,_,_,_,_,_,_,_,_⟩
  go_simp
  with_reducible rfl
  rotate_left
  simp only [Act.put,s1,s2,s3,i64_w,i32_w]
  rfl
  refine pA 22 12 172 8191 ?_ HT_ (by kernel_rfl) rfl rfl (fun _ _ _ h=>h) (by rfl) ?_ ?_ ?_ ?_
  rotate_left
  intro w'
  go_simp
  with_reducible rfl
  rotate_left
  simp only [Act.put,s1,s2,s3,i64_w,i32_w]
  rfl
  refine pA 22 13 173 16383 ?_ HT_ (by kernel_rfl) rfl rfl (fun _ _ _ h=>h) (by rfl) ?_ ?_ ?_ ?_
  rotate_left
  intro w'
  go_simp
  with_reducible rfl
  rotate_left
  simp only [Act.put,s1,s2,s3,i64_w,i32_w]
  rfl
  refine pT 22 14 174 32767 ?_ HT_ HW_ (by kernel_rfl) rfl rfl (fun _ _ _ h=>h) (by rfl) ?_ hHeld ?_ ?_ ?_
  rotate_left
  rintro w' ⟨_,_,_,_,_,_,_,_,_,_,_⟩
  go_simp
  with_reducible rfl
  rotate_left
  simp only [Act.put,s1,s2,s3,i64_w,i32_w]
  rfl
  refine pA 22 15 175 65535 ?_ HT_ (by kernel_rfl) rfl rfl (fun _ _ _ h=>h) (by rfl) ?_ ?_ ?_ ?_
  rotate_left
  intro w'
  go_simp
  with_reducible rfl
  rotate_left
  simp only [Act.put,s1,s2,s3,i64_w,i32_w]
  rfl
  refine pT 22 16 176 131071 ?_ HT_ HW_ (by kernel_rfl) rfl rfl (fun _ _ _ h=>h) (by rfl) ?_ hHeld ?_ ?_ ?_
  rotate_left
  rintro w' ⟨_,_,_,_,_,_,_,_,_,_,_⟩
  go_simp
  with_reducible rfl
  rotate_left
  simp only [Act.put,s1,s2,s3,i64_w,i32_w]
  rfl
  refine pA 22 17 177 262143 ?_ HT_ (by kernel_rfl) rfl rfl (fun _ _ _ h=>h) (by rfl) ?_ ?_ ?_ ?_
  rotate_left
  intro w'
  go_simp
  with_reducible rfl
  rotate_left
  simp only [Act.put,s1,s2,s3,i64_w,i32_w]
  rfl
  refine pO 22 18 524287 (some 178) HT_ (by kernel_rfl) rfl rfl (by decide) (fun K hK=>?_)
  refine value_ (w1:=?_) (v:=?_) (by rfl) rfl ?_ ?_
  rotate_left 2
  ·go_simp
   constructor
   ·rfl
   rfl
  refine hK.out _ _ ⟨(bk_c (bk_a af.out _) 0).trans rfl,(bk_c (bk_a af.out _) 1).trans rfl,(bk_c (bk_a af.out _) 2).trans rfl,(bk_c (bk_a ag.out _) 0).trans rfl,(bk_c (bk_a ag.out _) 1).trans rfl,(bk_c (bk_a ag.out _) 2).trans rfl,(World.cell?_alloc_lt _ _ _ (World.block_lt_of_cell? _ _ (((HB.out.cell (World.block_lt_of_cell? w _ bl)).trans bl)))).trans (((HB.out.cell (World.block_lt_of_cell? w _ bl)).trans bl)),(World.cell?_alloc_lt _ _ _ (World.block_lt_of_cell? _ _ (((HB.out.cell (World.block_lt_of_cell? w _ bm)).trans bm)))).trans (((HB.out.cell (World.block_lt_of_cell? w _ bm)).trans bm)),(World.cell?_alloc_lt _ _ _ (World.block_lt_of_cell? _ _ (((HB.out.cell (World.block_lt_of_cell? w _ bn)).trans bn)))).trans (((HB.out.cell (World.block_lt_of_cell? w _ bn)).trans bn)),(World.cell?_alloc_lt _ _ _ (World.block_lt_of_cell? _ _ (((HB.out.cell (World.block_lt_of_cell? w _ bo)).trans bo)))).trans (((HB.out.cell (World.block_lt_of_cell? w _ bo)).trans bo)),(World.cell?_alloc_lt _ _ _ (World.block_lt_of_cell? _ _ (hHeld.2.2.2.2.2.2.2.2.2.2))).trans (hHeld.2.2.2.2.2.2.2.2.2.2)⟩ (fun hHeld=>?_)
  clear hK K
  refine norm_ (a':=?_) ?_ ?_
  rotate_left
  ·show Act.put _ (some 178) _=_
   simp only [Act.put,s1,s2,s3,i64_w,i32_w]
   rfl
  refine pL 22 19 1048575 (some 179) HT_ (by kernel_rfl) rfl rfl (by decide) (fun K hK=>?_)
  refine Kd.R_append_step k37 (w0:=w) w.heap.size (by rfl) (.tmp 161) (.tmp 178) 28 37 (.agg #[(.int .i64 0),(.int .i64 0)]) 16 rfl Try.underlying28 info37 rfl (by decide) (by omega) u322002 aH (⟨(rdR aC ax).f0,rd aD ((rdR aC ax).f1)⟩:S37) [.int .i64 ((rdR aC ax).f0),.int .i64 (rd aD ((rdR aC ax).f1))] (fun _=>True) (fun _=>False) rfl rfl ?aP (fun _ hk=>hk.elim) ?aF ?aO ?aB ?aS ?aL ?_
  (case aP=>exact k37_mkM _ _ _ (⟨(rdR aC ax).f0,rd aD ((rdR aC ax).f1)⟩:S37))
  (case aB=>exact HB.out)
  (case aF=>exact (fun _ _=>trivial))
  (case aO=>exact ay.out)
  (case aS=>exact (below_size HB.out))
  (case aL=>have:=fF.out;omega)
  intro qa ns ho hb hg hat
  rw [← hH.out] at ho
  replace am:=qo am ay (by decide) hg
  replace ab:=qo ab ay (by decide) hg
  replace ad:=qo ad ay (by decide) hg
  replace ag:=qg ag hg ay (by decide)
  replace ah:=qg ah hg ay (by decide)
  replace af:=qg af hg ay (by decide)
  replace HB:=Aside0.mk hb
  have eP:=Aside0.mk ho
  clear ay
  clear ho hb hg hat
  obtain ⟨hh,il,iA⟩:=Kd.R_slice eP.out
  (subst iA)
  refine hK.out _ _ ?_
  clear hK K
  refine norm_ (a':=?_) ?_ ?_
  rotate_left
  ·show Act.put _ (some 179) _=_
   simp only [Act.put,s1,s2,s3,i64_w,i32_w]
   rfl
  refine pA 22 20 180 2097151 ?_ HT_ (by kernel_rfl) rfl rfl (fun _ _ _ h=>h) (by rfl) ?_ ?_ ?_ ?_
  rotate_left
  intro w'
  go_simp
  with_reducible rfl
  rotate_left
  simp only [Act.put,s1,s2,s3,i64_w,i32_w]
  rfl
  refine pL 22 21 4194303 (none) HT_ (by kernel_rfl) rfl rfl (by decide) (fun K hK=>?_)
  have pp:ns.cell? ⟨aA,2,none⟩=some (u322002):=(bk_c af.out 2).trans rfl
  have my:=bk_f af.out 2
  have ka:=al.out
  have kb:=ar.out
  have jY:=ao.out
  have jZ:=av.out
  refine skip_ (w1:=?_) (by rfl) rfl ?_ ?_
  rotate_left
  ·go_simp
   rfl
  refine hK.out _ _ ?_
  clear hK K
  refine done_ (done_of HT_.out (by kernel_rfl)) ?_
  try go_wp2
  go_roundg k5
  case measure=>have:=bS.out;have:=cD.out;have:=cM.out;have:=gZ.out;have:=nO.out;omega
  case rel=>exact ⟨(wrap64 (ax+1)),(ke),(.slice hh ke.length il),rfl,H',⟨by have:=bS.out;have:=cD.out;have:=cM.out;have:=gZ.out;have:=nO.out;omega⟩,zRm am af (by decide) kb1 (fun _ _=>trivial),zR ab af (by decide) kb1,zR ad af (by decide) kb1,zRm eP af (by decide) kb1 (fun _ _=>trivial),zb ag al.out kb1,zb ah ar.out kb1,⟨by refine blk_put (cs:=#[u322000,.slice bp ae.length bs,u322002]) ?_ 2 _ rfl;exact af.out⟩,⟨by repeat ((with_reducible first | exact HB.out | refine b_st ?_ cY.out))⟩⟩
 rw [if_neg cU] at H
 have fK:=decide_eq_false cU
 clear cU
 simp only [Option.some.injEq,Prod.mk.injEq] at H
 obtain ⟨rfl,rfl,rfl⟩:=H
 have mP:=aE.out
 have nh:=aG.out
 have mQ:=al.out
 have ni:=ao.out
 refine qc3 ag fun jm jn jo jO jP jQ=>?_
 have mR:=av.out
 have nj:=ar.out
 refine qc3 af fun jp jq jr jR jS jT=>?_
 obtain ⟨bX,bY,iB⟩:=Kd.R_slice ab.out
 subst iB
 refine qc3 ah fun js jt ju jU jV jW=>?_
 obtain ⟨cL,cN,iC⟩:=Kd.R_slice ay.out
 subst iC
 go_wp2
 refine bodyPost_ret (results_cell_row rfl _ _ aX 30 #[.slice bX az.length bY,.slice bp ae.length bs,.slice cL aH.length cN] (0,0) _ rfl (by refine blk_put (cs:=#[.slice bX az.length bY,.slice bp ae.length bs,.slice none 0 0]) ?_ 2 _ rfl;refine blk_put (cs:=#[.slice bX az.length bY,.slice none 0 0,.slice none 0 0]) ?_ 1 _ rfl;refine blk_put (cs:=#[.slice none 0 0,.slice none 0 0,.slice none 0 0]) ?_ 0 _ rfl;exact ah.out) Try.underlying30 rfl (by kernel_rfl)) rfl ?_
 exact ⟨_,_,_,by (rfl),by exact Kd.R_mono (Kd.R_far (p:=⟨aX,2,none⟩) (Kd.R_far (p:=⟨aX,1,none⟩) (Kd.R_far (p:=⟨aX,0,none⟩) (Kd.R_types ab.out ah.out (by decide)) (fun _ hk=>hk.2) (.slice bX az.length bY)) (fun _ hk=>hk.2) (.slice bp ae.length bs)) (fun _ hk=>hk.2) (.slice cL aH.length cN)) (fun _ hk=>hk.1),by exact Kd.R_mono (Kd.R_far (p:=⟨aX,2,none⟩) (Kd.R_far (p:=⟨aX,1,none⟩) (Kd.R_far (p:=⟨aX,0,none⟩) (Kd.R_types ad.out ah.out (by decide)) (fun _ hk=>hk.2) (.slice bX az.length bY)) (fun _ hk=>hk.2) (.slice bp ae.length bs)) (fun _ hk=>hk.2) (.slice cL aH.length cN)) (fun _ hk=>hk.1),by exact Kd.R_mono (Kd.R_far (p:=⟨aX,2,none⟩) (Kd.R_far (p:=⟨aX,1,none⟩) (Kd.R_far (p:=⟨aX,0,none⟩) (Kd.R_types ay.out ah.out (by decide)) (fun _ hk=>hk.2) (.slice bX az.length bY)) (fun _ hk=>hk.2) (.slice bp ae.length bs)) (fun _ hk=>hk.2) (.slice cL aH.length cN)) (fun _ hk=>trivial),by repeat ((with_reducible first | exact HB.out | refine b_st ?_ hl.out))⟩
end Go.Proofs.Ytedghbjmhcgilaa.POpt
end
