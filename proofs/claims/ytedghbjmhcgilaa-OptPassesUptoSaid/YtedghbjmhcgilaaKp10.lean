import Derived.Test.YtedghbjmhcgilaaKp5
import Derived.Test.YtedghbjmhcgilaaKp8
set_option linter.unusedVariables false
set_option linter.unusedSimpArgs false
section
namespace Go.Proofs.Ytedghbjmhcgilaa.POpt
open Go.RowKit Go.Proofs.YtedghbjmhcgilaaW.PrintWords Go.Proofs.YtedghbjmhcgilaaW.PrintLast Go.Proofs.YtedghbjmhcgilaaW.PrintMore
mutual
def rfFuse.l0:Nat→List Bool→List Bool→Int→List (S35)→List (S35)→List (S37)→List (S35)→List (S35)→List (S37)→Option ((List (S35)) × (List (S35)) × (List (S37)))
  | 0,_,_,_,_,_,_,_,_,_=>none
  | k+1,x4,x5,x6,x361000,x361001,x361002,x382000,x382001,x382002=>if x6 < (x361000.length:Int) then (if 0≤x6 then (if ((rdQ x361000 x6).f0)=2 then (if 0≤((rdQ x361000 x6).f2) then (if ((rdQ x361000 x6).f2) < (x4.length:Int) then (rfFuse.l0 k (x4.set (((rdQ x361000 x6).f2):Int).toNat true) x5 (wrap64 (x6+1)) x361000 x361001 x361002 x382000 x382001 x382002) else (none)) else (none)) else (if ((rdQ x361000 x6).f0)=3 then (if 0≤((rdQ x361000 x6).f1) then (if ((rdQ x361000 x6).f1) < (x4.length:Int) then (rfFuse.l0 k (x4.set (((rdQ x361000 x6).f1):Int).toNat true) x5 (wrap64 (x6+1)) x361000 x361001 x361002 x382000 x382001 x382002) else (none)) else (none)) else (if ((rdQ x361000 x6).f0)=4 then (if 0≤((rdQ x361000 x6).f1) then (if ((rdQ x361000 x6).f1) < (x4.length:Int) then (rfFuse.l0 k (x4.set (((rdQ x361000 x6).f1):Int).toNat true) x5 (wrap64 (x6+1)) x361000 x361001 x361002 x382000 x382001 x382002) else (none)) else (none)) else (rfFuse.l0 k x4 x5 (wrap64 (x6+1)) x361000 x361001 x361002 x382000 x382001 x382002)))) else (none)) else (rfFuse.l1 k x4 x5 0 x361000 x361001 x361002 x382000 x382001 x382002)
def rfFuse.l1:Nat→List Bool→List Bool→Int→List (S35)→List (S35)→List (S37)→List (S35)→List (S35)→List (S37)→Option ((List (S35)) × (List (S35)) × (List (S37)))
  | 0,_,_,_,_,_,_,_,_,_=>none
  | k+1,x4,x5,x7,x361000,x361001,x361002,x382000,x382001,x382002=>if x7 < (x361002.length:Int) then (if 0≤x7 then (if 0≤((rdR x361002 x7).f1) then (if ((rdR x361002 x7).f1) < (x4.length:Int) then (rfFuse.l1 k (x4.set (((rdR x361002 x7).f1):Int).toNat true) x5 (wrap64 (x7+1)) x361000 x361001 x361002 x382000 x382001 x382002) else (none)) else (none)) else (none)) else (rfFuse.l2 k x4 x5 0 x361000 x361001 x361002 x382000 x382001 x382002)
def rfFuse.l2:Nat→List Bool→List Bool→Int→List (S35)→List (S35)→List (S37)→List (S35)→List (S35)→List (S37)→Option ((List (S35)) × (List (S35)) × (List (S37)))
  | 0,_,_,_,_,_,_,_,_,_=>none
  | k+1,x4,x5,x8,x361000,x361001,x361002,x382000,x382001,x382002=>if x8 < (x361001.length:Int) then (if 0≤x8 then (if ((rdQ x361001 x8).f0)=16 then (if 0≤((rdQ x361001 x8).f2) then (if ((rdQ x361001 x8).f2) < (x5.length:Int) then (rfFuse.l2 k x4 (x5.set (((rdQ x361001 x8).f2):Int).toNat true) (wrap64 (x8+1)) x361000 x361001 x361002 x382000 x382001 x382002) else (none)) else (none)) else (rfFuse.l2 k x4 x5 (wrap64 (x8+1)) x361000 x361001 x361002 x382000 x382001 x382002)) else (none)) else ((rfall.f k (x361000.length:Int)).bind fun t400=>(rfFuse.l3 k x4 x5 t400 0 x361000 x361001 x361002 x382000 x382001 x382002))
def rfFuse.l3:Nat→List Bool→List Bool→List Bool→Int→List (S35)→List (S35)→List (S37)→List (S35)→List (S35)→List (S37)→Option ((List (S35)) × (List (S35)) × (List (S37)))
  | 0,_,_,_,_,_,_,_,_,_,_=>none
  | k+1,x4,x5,x9,x10,x361000,x361001,x361002,x382000,x382001,x382002=>if (wrap64 (x10+1)) < (x361000.length:Int) then (if 0≤(wrap64 (x10+1)) then (if 0≤x10 then (if x10 < (x361000.length:Int) then (if ((rdQ x361000 x10).f0)=5 then (if ((rdQ x361000 (wrap64 (x10+1))).f0)=7 then (if (wrap64 (x10+1)) < (x4.length:Int) then (if (rdOf false x4 (wrap64 (x10+1))=true) then (rfFuse.l3 k x4 x5 x9 (wrap64 (x10+1)) x361000 x361001 x361002 x382000 x382001 x382002) else (if x10 < (x382000.length:Int) then (if (wrap64 (x10+1)) < (x9.length:Int) then (rfFuse.l3 k x4 x5 (x9.set ((wrap64 (x10+1)):Int).toNat false) (wrap64 ((wrap64 (x10+1))+1)) x361000 x361001 x361002 (x382000.set (x10:Int).toNat (⟨wrap64 (((rdQ x361000 (wrap64 (x10+1))).f0)+7),(rdQ x361000 x10).f1,(rdQ x361000 (wrap64 (x10+1))).f1,0,0⟩:S35)) x382001 x382002) else (none)) else (none))) else (none)) else (if ((rdQ x361000 (wrap64 (x10+1))).f0)=8 then (if (wrap64 (x10+1)) < (x4.length:Int) then (if (rdOf false x4 (wrap64 (x10+1))=true) then (rfFuse.l3 k x4 x5 x9 (wrap64 (x10+1)) x361000 x361001 x361002 x382000 x382001 x382002) else (if x10 < (x382000.length:Int) then (if (wrap64 (x10+1)) < (x9.length:Int) then (rfFuse.l3 k x4 x5 (x9.set ((wrap64 (x10+1)):Int).toNat false) (wrap64 ((wrap64 (x10+1))+1)) x361000 x361001 x361002 (x382000.set (x10:Int).toNat (⟨wrap64 (((rdQ x361000 (wrap64 (x10+1))).f0)+7),(rdQ x361000 x10).f1,(rdQ x361000 (wrap64 (x10+1))).f1,0,0⟩:S35)) x382001 x382002) else (none)) else (none))) else (none)) else (rfFuse.l3 k x4 x5 x9 (wrap64 (x10+1)) x361000 x361001 x361002 x382000 x382001 x382002))) else (rfFuse.l3 k x4 x5 x9 (wrap64 (x10+1)) x361000 x361001 x361002 x382000 x382001 x382002)) else (none)) else (none)) else (none)) else ((rfall.f k (x361001.length:Int)).bind fun t414=>(rfFuse.l4 k x5 x9 t414 0 x361000 x361001 x361002 x382000 x382001 x382002))
def rfFuse.l4:Nat→List Bool→List Bool→List Bool→Int→List (S35)→List (S35)→List (S37)→List (S35)→List (S35)→List (S37)→Option ((List (S35)) × (List (S35)) × (List (S37)))
  | 0,_,_,_,_,_,_,_,_,_,_=>none
  | k+1,x5,x9,x12,x13,x361000,x361001,x361002,x382000,x382001,x382002=>if (wrap64 (x13+1)) < (x361001.length:Int) then (if 0≤x13 then (if x13 < (x361001.length:Int) then (if ((rdQ x361001 x13).f0)=17 then (if 0≤(wrap64 (x13+1)) then (if ((rdQ x361001 (wrap64 (x13+1))).f0)=18 then (if (wrap64 (x13+1)) < (x5.length:Int) then (if (rdOf false x5 (wrap64 (x13+1))=true) then (rfFuse.l4 k x5 x9 x12 (wrap64 (x13+1)) x361000 x361001 x361002 x382000 x382001 x382002) else (if x13 < (x382001.length:Int) then (if (wrap64 (x13+1)) < (x12.length:Int) then (rfFuse.l4 k x5 x9 (x12.set ((wrap64 (x13+1)):Int).toNat false) (wrap64 ((wrap64 (x13+1))+1)) x361000 x361001 x361002 x382000 (x382001.set (x13:Int).toNat (⟨25,(rdQ x361001 x13).f1,(rdQ x361001 (wrap64 (x13+1))).f1,0,0⟩:S35)) x382002) else (none)) else (none))) else (none)) else (rfFuse.l4 k x5 x9 x12 (wrap64 (x13+1)) x361000 x361001 x361002 x382000 x382001 x382002)) else (none)) else (rfFuse.l4 k x5 x9 x12 (wrap64 (x13+1)) x361000 x361001 x361002 x382000 x382001 x382002)) else (none)) else (none)) else ((rfwithout.f k x382000 x382001 x382002 x9 x12).bind fun bt424=>(some (bt424.1,bt424.2.1,bt424.2.2)))
end
def rfFuse.f (k:Nat) (l0_0:List (S35)) (l0_1:List (S35)) (l0_2:List (S37)):Option ((List (S35)) × (List (S35)) × (List (S37))):=(rfisEnum.f l0_0 l0_1 l0_2).bind fun t362=>(if t362=true then ((rfcopied.f l0_0 l0_1 l0_2).bind fun bt363=>(some (bt363.1,bt363.2.1,bt363.2.2))) else ((rfcopied.f l0_0 l0_1 l0_2).bind fun bt372=>(if 0≤(wrap64 ((l0_0.length:Int)+1)) then (if (wrap64 ((l0_0.length:Int)+1):Int).toNat≤281474976710656 then (if 0≤(wrap64 ((l0_1.length:Int)+1)) then (if (wrap64 ((l0_1.length:Int)+1):Int).toNat≤281474976710656 then (rfFuse.l0 k (List.replicate (wrap64 ((l0_0.length:Int)+1):Int).toNat false) (List.replicate (wrap64 ((l0_1.length:Int)+1):Int).toNat false) 0 l0_0 l0_1 l0_2 bt372.1 bt372.2.1 bt372.2.2) else (none)) else (none)) else (none)) else (none))))
theorem rfFuse.mono_l:∀ k,(∀ y0 y1 y2 y3 y4 y5 y6 y7 y8,LeO (rfFuse.l0 k y0 y1 y2 y3 y4 y5 y6 y7 y8) (rfFuse.l0 (k+1) y0 y1 y2 y3 y4 y5 y6 y7 y8))∧(∀ y0 y1 y2 y3 y4 y5 y6 y7 y8,LeO (rfFuse.l1 k y0 y1 y2 y3 y4 y5 y6 y7 y8) (rfFuse.l1 (k+1) y0 y1 y2 y3 y4 y5 y6 y7 y8))∧(∀ y0 y1 y2 y3 y4 y5 y6 y7 y8,LeO (rfFuse.l2 k y0 y1 y2 y3 y4 y5 y6 y7 y8) (rfFuse.l2 (k+1) y0 y1 y2 y3 y4 y5 y6 y7 y8))∧(∀ y0 y1 y2 y3 y4 y5 y6 y7 y8 y9,LeO (rfFuse.l3 k y0 y1 y2 y3 y4 y5 y6 y7 y8 y9) (rfFuse.l3 (k+1) y0 y1 y2 y3 y4 y5 y6 y7 y8 y9))∧(∀ y0 y1 y2 y3 y4 y5 y6 y7 y8 y9,LeO (rfFuse.l4 k y0 y1 y2 y3 y4 y5 y6 y7 y8 y9) (rfFuse.l4 (k+1) y0 y1 y2 y3 y4 y5 y6 y7 y8 y9))
  | 0=>⟨fun _ _ _ _ _ _ _ _ _ r h=>by simp [rfFuse.l0] at h,fun _ _ _ _ _ _ _ _ _ r h=>by simp [rfFuse.l1] at h,fun _ _ _ _ _ _ _ _ _ r h=>by simp [rfFuse.l2] at h,fun _ _ _ _ _ _ _ _ _ _ r h=>by simp [rfFuse.l3] at h,fun _ _ _ _ _ _ _ _ _ _ r h=>by simp [rfFuse.l4] at h⟩
  | k+1=>by
    obtain ⟨ih0,ih1,ih2,ih3,ih4⟩:=rfFuse.mono_l k
    refine ⟨?_,?_,?_,?_,?_⟩
    · intro y0 y1 y2 y3 y4 y5 y6 y7 y8
      unfold rfFuse.l0
      repeat' first | (with_reducible exact ih0 _ _ _ _ _ _ _ _ _) | (with_reducible exact ih1 _ _ _ _ _ _ _ _ _) | (with_reducible exact LeO.refl _) | (with_reducible refine LeO.ite ?_ ?_)
    · intro y0 y1 y2 y3 y4 y5 y6 y7 y8
      unfold rfFuse.l1
      repeat' first | (with_reducible exact ih1 _ _ _ _ _ _ _ _ _) | (with_reducible exact ih2 _ _ _ _ _ _ _ _ _) | (with_reducible exact LeO.refl _) | (with_reducible refine LeO.ite ?_ ?_)
    · intro y0 y1 y2 y3 y4 y5 y6 y7 y8
      unfold rfFuse.l2
      repeat' first | (with_reducible exact ih2 _ _ _ _ _ _ _ _ _) | (with_reducible exact ih3 _ _ _ _ _ _ _ _ _ _) | (with_reducible exact rfall.mono _ _) | (with_reducible exact LeO.refl _) | (with_reducible refine LeO.ite ?_ ?_) | (with_reducible refine LeO.bind ?_ (fun _=>?_))
    · intro y0 y1 y2 y3 y4 y5 y6 y7 y8 y9
      unfold rfFuse.l3
      repeat' first | (with_reducible exact ih3 _ _ _ _ _ _ _ _ _ _) | (with_reducible exact ih4 _ _ _ _ _ _ _ _ _ _) | (with_reducible exact rfall.mono _ _) | (with_reducible exact LeO.refl _) | (with_reducible refine LeO.ite ?_ ?_) | (with_reducible refine LeO.bind ?_ (fun _=>?_))
    · intro y0 y1 y2 y3 y4 y5 y6 y7 y8 y9
      unfold rfFuse.l4
      repeat' first | (with_reducible exact ih4 _ _ _ _ _ _ _ _ _ _) | (with_reducible exact rfwithout.mono _ _ _ _ _ _) | (with_reducible exact LeO.refl _) | (with_reducible refine LeO.ite ?_ ?_) | (with_reducible refine LeO.bind ?_ (fun _=>?_))
theorem rfFuse.mono:∀ a0 a1 a2 k,LeO (rfFuse.f k a0 a1 a2) (rfFuse.f (k+1) a0 a1 a2):=by
  intro a0 a1 a2 k
  obtain ⟨ih0,ih1,ih2,ih3,ih4⟩:=rfFuse.mono_l k
  unfold rfFuse.f
  repeat' first | (with_reducible exact ih0 _ _ _ _ _ _ _ _ _) | (with_reducible exact LeO.refl _) | (with_reducible refine LeO.ite ?_ ?_) | (with_reducible refine LeO.bind ?_ (fun _=>?_))
def rfFuse.T30:Bool × List (List Nat × List Nat):=(true,[([],[]),([0],[0]),([],[]),([],[]),([3],[3]),([4],[4]),([],[]),([6],[6]),([],[]),([7,8],[7,8]),([9],[9]),([10],[10]),([],[]),([12],[12]),([5,11,13],[5,11,13]),([1,2,0,1,2,3,4,5,6,7,8,9,10,11,12,13,14],[1,2]),([15,14,0,1,2,3,4,5,6,7,8,9,10,11,12,13,14],[14,15])])
def rfFuse.B30:List Nat:=[0,1,0,0,8,24,0,64,0,448,960,1984,0,4096,16376,32767,65535]
theorem rfFuse.tab30:rtab .any (opsOf Try.f14 30)=rfFuse.T30:=by kernel_rfl
theorem rfFuse.bits30:waitsOk rfFuse.T30.2 rfFuse.B30=true:=by kernel_rfl
def rfFuse.T38:Bool × List (List Nat × List Nat):=(true,[([],[]),([0],[0]),([],[]),([],[]),([3],[3]),([],[]),([4,5],[4,5]),([6],[6]),([7],[7]),([],[]),([9],[9]),([],[]),([11],[11]),([10,12],[10,12]),([13],[13]),([14],[14]),([8,15],[8,15]),([1,2,0,1,2,3,4,5,6,7,8,9,10,11,12,13,14,15,16],[1,2]),([17,16,0,1,2,3,4,5,6,7,8,9,10,11,12,13,14,15,16],[16,17])])
def rfFuse.B38:List Nat:=[0,1,0,0,8,0,56,120,248,0,512,0,2048,7680,15872,32256,65528,131071,262143]
theorem rfFuse.tab38:rtab .any (opsOf Try.f14 38)=rfFuse.T38:=by kernel_rfl
theorem rfFuse.bits38:waitsOk rfFuse.T38.2 rfFuse.B38=true:=by kernel_rfl
set_option maxHeartbeats 8000000 in
set_option maxRecDepth 100000 in
theorem rfFuse.calls (k:Nat) (bD:Option Addr) (bp:Nat) (ad:List (S35)) (bu:Option Addr) (bq:Nat) (ay:List (S35)) (bo:Option Addr) (br:Nat) (aP:List (S37)) (r1:List (S35)) (r2:List (S35)) (r3:List (S37)) (w:World) (iB:Kd.C k35 w bD ad.length ad) (iy:ad.length≤bp) (iC:Kd.C k35 w bu ay.length ay) (iz:ay.length≤bq) (iD:Kd.C k37 w bo aP.length aP) (iA:aP.length≤br) (h:rfFuse.f k ad ay aP=some (r1,r2,r3)) :
    Calls Try.prog 14 #[.agg #[.slice bD ad.length bp,.slice bu ay.length bq,.slice bo aP.length br]] w fun e w'=>∃ vz vA xh:Value,e=.returned (.agg #[vz,vA,xh])∧Kd.R k35 35 w' w.heap.size (fun k_=>some k_≠(vA:Value).ownBlock) vz r1∧Kd.R k35 35 w' w.heap.size (fun k_=>some k_≠(vz:Value).ownBlock) vA r2∧Kd.R k37 37 w' w.heap.size (fun _=>True) xh r3∧Below w.heap.size w w':=by
 have xp:=Try.underlying30
 have xq:=Try.underlying35
 have av:=Aside0.mk iB
 have dG:=Aside0.mk iy
 clear iB iy
 have bg:=Aside0.mk iC
 have dH:=Aside0.mk iz
 clear iC iz
 have dk:=Aside0.mk iD
 have dI:=Aside0.mk iA
 clear iD iA
 have HB:=Aside0.mk (Below.refl w.heap.size w)
 have H:((rfisEnum.f ad ay aP).bind fun jS=>(if jS=true then ((rfcopied.f ad ay aP).bind fun eF=>(some (eF.1,eF.2.1,eF.2.2))) else ((rfcopied.f ad ay aP).bind fun eG=>(if 0≤(wrap64 ((ad.length:Int)+1)) then (if (wrap64 ((ad.length:Int)+1):Int).toNat≤281474976710656 then (if 0≤(wrap64 ((ay.length:Int)+1)) then (if (wrap64 ((ay.length:Int)+1):Int).toNat≤281474976710656 then (rfFuse.l0 k (List.replicate (wrap64 ((ad.length:Int)+1):Int).toNat false) (List.replicate (wrap64 ((ay.length:Int)+1):Int).toNat false) 0 ad ay aP eG.1 eG.2.1 eG.2.2) else (none)) else (none)) else (none)) else (none)))))=some (r1,r2,r3):=h
 clear h
 replace H:=Option.bind_eq_some_iff.mp H
 obtain ⟨jS,vI,H⟩:=H
 try dsimp only at H
 have A2:=Aside0.mk vI
 clear vI
 by_cases c3:jS=true
 ·subst c3
  replace H:=iP H
  replace H:=Option.bind_eq_some_iff.mp H
  obtain ⟨⟨dD,eq,fF⟩,vJ,H⟩:=H
  try dsimp only at H
  have A4:=Aside0.mk vJ
  clear vJ
  simp only [Option.some.injEq,Prod.mk.injEq] at H
  obtain ⟨rfl,rfl,rfl⟩:=H
  go_enter Try.func14,Try.ntmps14
  go_wp2_with (first | ((with_reducible refine gate_dst (N:=1) rfl ?_);refine box_event ?hg (N:=1) ?hd (cs:=#[.slice bD ad.length bp,.slice bu ay.length bq,.slice bo aP.length br]) (t:=30) ?hr ?_;(case hd=>rfl);(case hg=>rfl);(case hr=>(go_simp;done));intro bc hg w5 hbox hb;have af:=Aside0.mk hbox;have ks:=qz HB hg;have kr:=qz HB hg;replace HB:=qs HB hb;clear hb hbox hg)|((with_reducible refine gate_dst (N:=2) rfl ?_);refine box_event ?hg (N:=2) ?hd (cs:=#[.slice none 0 0,.slice none 0 0,.slice none 0 0]) (t:=30) ?hr ?_;(case hd=>rfl);(case hg=>rfl);(case hr=>(go_simp;done));intro aJ hg w6 hbox hb;have ai:=Aside0.mk hbox;have kt:=qz HB hg;have et:=qz HB hg;replace HB:=qs HB hb;have ar:=qn af hg;have au:=qN af hg;replace af:=qb af hb;clear hb hbox hg;have xn:=ar.out;have xo:=au.out;refine qc3 af fun sS sT sU ta tb tc=>?_)|((with_reducible refine gate_callee (f:=39) rfl ?_);refine goesL_ (some 15) rfl rfl Try.func39 (by kernel_rfl) rfl #[.agg #[.slice bD ad.length bp,.slice bu ay.length bq,.slice bo aP.length br]] rfl (by (try simp only [List.map_toArray,List.map_cons,List.map_nil]);(rfl)) ?_;(with_reducible refine (rfisEnum.calls _ _ ad _ _ ay _ _ aP true _ ?cP ?cQ ?cR ?cS ?cT ?cU A2.out).mono ?_);(case cP=>exact (Kd.C_below av.out HB.out));(case cQ=>exact dG.out);(case cR=>exact (Kd.C_below bg.out HB.out));(case cS=>exact dH.out);(case cT=>exact (Kd.C_below dk.out HB.out));(case cU=>exact dI.out);rintro e w9 ⟨rfl,hb⟩;refine ⟨_,rfl,?_⟩;replace af:=qb af hb;replace ai:=qb ai hb;replace HB:=qs HB hb;(try clear hb);refine qc3 af fun qf qh qi qS qT qU=>?_)|((with_reducible refine gate_callee (f:=37) rfl ?_);refine goesL_ (some 17) rfl rfl Try.func37 (by kernel_rfl) rfl #[.agg #[.slice bD ad.length bp,.slice bu ay.length bq,.slice bo aP.length br]] rfl (by (try simp only [List.map_toArray,List.map_cons,List.map_nil]);(rfl)) ?_;(with_reducible refine (rfcopied.calls _ _ ad _ _ ay _ _ aP dD eq fF _ ?cP ?cQ ?cR ?cS ?cT ?cU A4.out).mono ?_);(case cP=>exact (Kd.C_below av.out HB.out));(case cQ=>exact dG.out);(case cR=>exact (Kd.C_below bg.out HB.out));(case cS=>exact dH.out);(case cT=>exact (Kd.C_below dk.out HB.out));(case cU=>exact dI.out);rintro e xT ⟨xD,xE,xF,rfl,cI,fI,gV,hb⟩;refine ⟨_,rfl,?_⟩;have hN:=ql cI HB;have hO:=ql fI HB;have hP:=ql gV HB;replace af:=qb af hb;replace ai:=qb ai hb;replace HB:=qs HB hb;(try clear hb);(try clear cI);(try clear fI);(try clear gV);obtain ⟨em,ep,sH⟩:=Kd.R_slice hN.out;subst sH;refine qc3 ai fun qj qk qm qV qW qX=>?_;obtain ⟨es,eO,sI⟩:=Kd.R_slice hO.out;subst sI;obtain ⟨fJ,fN,sJ⟩:=Kd.R_slice hP.out;subst sJ))
  refine bodyPost_ret (results_cell_row rfl _ _ aJ 30 #[.slice em dD.length ep,.slice es eq.length eO,.slice fJ fF.length fN] (0,0) _ rfl (by refine blk_put (cs:=#[.slice em dD.length ep,.slice es eq.length eO,.slice none 0 0]) ?_ 2 _ rfl;refine blk_put (cs:=#[.slice em dD.length ep,.slice none 0 0,.slice none 0 0]) ?_ 1 _ rfl;refine blk_put (cs:=#[.slice none 0 0,.slice none 0 0,.slice none 0 0]) ?_ 0 _ rfl;exact ai.out) Try.underlying30 rfl (by kernel_rfl)) rfl ?_
  exact ⟨_,_,_,by (rfl),by exact Kd.R_mono (Kd.R_far (p:=⟨aJ,2,none⟩) (Kd.R_far (p:=⟨aJ,1,none⟩) (Kd.R_far (p:=⟨aJ,0,none⟩) (Kd.R_types hN.out ai.out (by decide)) (fun _ hk=>hk.2) (.slice em dD.length ep)) (fun _ hk=>hk.2) (.slice es eq.length eO)) (fun _ hk=>hk.2) (.slice fJ fF.length fN)) (fun _ hk=>hk.1),by exact Kd.R_mono (Kd.R_far (p:=⟨aJ,2,none⟩) (Kd.R_far (p:=⟨aJ,1,none⟩) (Kd.R_far (p:=⟨aJ,0,none⟩) (Kd.R_types hO.out ai.out (by decide)) (fun _ hk=>hk.2) (.slice em dD.length ep)) (fun _ hk=>hk.2) (.slice es eq.length eO)) (fun _ hk=>hk.2) (.slice fJ fF.length fN)) (fun _ hk=>hk.1),by exact Kd.R_mono (Kd.R_far (p:=⟨aJ,2,none⟩) (Kd.R_far (p:=⟨aJ,1,none⟩) (Kd.R_far (p:=⟨aJ,0,none⟩) (Kd.R_types hP.out ai.out (by decide)) (fun _ hk=>hk.2) (.slice em dD.length ep)) (fun _ hk=>hk.2) (.slice es eq.length eO)) (fun _ hk=>hk.2) (.slice fJ fF.length fN)) (fun _ hk=>trivial),by repeat ((with_reducible first | exact HB.out | refine b_st ?_ et.out))⟩
 replace c3:=Bool.eq_false_iff.mpr c3
 subst c3
 replace H:=iF H
 replace H:=Option.bind_eq_some_iff.mp H
 obtain ⟨⟨bh,bi,aW⟩,kf,H⟩:=H
 try dsimp only at H
 have rW:=Aside0.mk kf
 clear kf
 obtain ⟨hz,dL⟩:∃ j_:Int,(wrap64 ((ad.length:Int)+1))=j_:=⟨_,rfl⟩
 rw [dL] at H
 (try rw [dL] at A2)
 (try rw [dL] at rW)
 have td:(IntKind.i64.wrap ((ad.length:Int)+1))=hz:=(i64_w _).trans dL
 replace H:=iNB H
 obtain ⟨kY,kZ,H⟩:=H
 replace H:=iNB H
 obtain ⟨la,lb,H⟩:=H
 obtain ⟨vH,fq⟩:∃ y_:List Bool,y_=(List.replicate (hz:Int).toNat false):=⟨_,rfl⟩
 rw [← fq] at H
 have kA:=Aside0.mk fq
 clear fq
 obtain ⟨hA,dM⟩:∃ j_:Int,(wrap64 ((ay.length:Int)+1))=j_:=⟨_,rfl⟩
 rw [dM] at H
 (try rw [dM] at A2)
 (try rw [dM] at rW)
 have te:(IntKind.i64.wrap ((ay.length:Int)+1))=hA:=(i64_w _).trans dM
 replace H:=iNB H
 obtain ⟨lc,ld,H⟩:=H
 replace H:=iNB H
 obtain ⟨le,lf,H⟩:=H
 obtain ⟨fH,fr⟩:∃ y_:List Bool,y_=(List.replicate (hA:Int).toNat false):=⟨_,rfl⟩
 rw [← fr] at H
 have kB:=Aside0.mk fr
 clear fr
 have H':=Aside0.mk H
 clear H
 go_enter Try.func14,Try.ntmps14
 go_wp2_with (first | ((with_reducible refine gate_dst (N:=1) rfl ?_);refine box_event ?hg (N:=1) ?hd (cs:=#[.slice bD ad.length bp,.slice bu ay.length bq,.slice bo aP.length br]) (t:=30) ?hr ?_;(case hd=>rfl);(case hg=>rfl);(case hr=>(go_simp;done));intro bc hg xU hbox hb;have af:=Aside0.mk hbox;have ks:=qz HB hg;have kr:=qz HB hg;replace HB:=qs HB hb;clear hb hbox hg)|((with_reducible refine gate_dst (N:=2) rfl ?_);refine box_event ?hg (N:=2) ?hd (cs:=#[.slice none 0 0,.slice none 0 0,.slice none 0 0]) (t:=30) ?hr ?_;(case hd=>rfl);(case hg=>rfl);(case hr=>(go_simp;done));intro aJ hg xV hbox hb;have ai:=Aside0.mk hbox;have kt:=qz HB hg;have et:=qz HB hg;replace HB:=qs HB hb;have ar:=qn af hg;have au:=qN af hg;replace af:=qb af hb;clear hb hbox hg;have wv:=ar.out;have wO:=au.out;refine qc3 af fun fO fP fQ gA gB gC=>?_)|((with_reducible refine gate_callee (f:=39) rfl ?_);refine goesL_ (some 15) rfl rfl Try.func39 (by kernel_rfl) rfl #[.agg #[.slice bD ad.length bp,.slice bu ay.length bq,.slice bo aP.length br]] rfl (by (try simp only [List.map_toArray,List.map_cons,List.map_nil]);(rfl)) ?_;(with_reducible refine (rfisEnum.calls _ _ ad _ _ ay _ _ aP false _ ?cP ?cQ ?cR ?cS ?cT ?cU A2.out).mono ?_);(case cP=>exact (Kd.C_below av.out HB.out));(case cQ=>exact dG.out);(case cR=>exact (Kd.C_below bg.out HB.out));(case cS=>exact dH.out);(case cT=>exact (Kd.C_below dk.out HB.out));(case cU=>exact dI.out);rintro e xW ⟨rfl,hb⟩;refine ⟨_,rfl,?_⟩;replace af:=qb af hb;replace ai:=qb ai hb;replace HB:=qs HB hb;(try clear hb);refine qc3 af fun fR fS fT gD gE gF=>?_)|((with_reducible refine gate_callee (f:=37) rfl ?_);refine goesL_ (some 19) rfl rfl Try.func37 (by kernel_rfl) rfl #[.agg #[.slice bD ad.length bp,.slice bu ay.length bq,.slice bo aP.length br]] rfl (by (try simp only [List.map_toArray,List.map_cons,List.map_nil]);(rfl)) ?_;(with_reducible refine (rfcopied.calls _ _ ad _ _ ay _ _ aP bh bi aW _ ?cP ?cQ ?cR ?cS ?cT ?cU rW.out).mono ?_);(case cP=>exact (Kd.C_below av.out HB.out));(case cQ=>exact dG.out);(case cR=>exact (Kd.C_below bg.out HB.out));(case cS=>exact dH.out);(case cT=>exact (Kd.C_below dk.out HB.out));(case cU=>exact dI.out);rintro e xX ⟨xG,xH,xI,rfl,cI,fI,gV,hb⟩;refine ⟨_,rfl,?_⟩;have cu:=ql cI HB;have cv:=ql fI HB;have cw:=ql gV HB;replace af:=qb af hb;replace ai:=qb ai hb;replace HB:=qs HB hb;(try clear hb);(try clear cI);(try clear fI);(try clear gV))|((with_reducible refine gate_dst (N:=3) rfl ?_);refine box_event ?hg (N:=3) ?hd (cs:=#[.slice none 0 0,.slice none 0 0,.slice none 0 0]) (t:=30) ?hr ?_;(case hd=>rfl);(case hg=>rfl);(case hr=>(go_simp;done));intro aU hg xY hbox hb;replace cu:=qB cu hb;replace cv:=qB cv hb;replace cw:=qB cw hb;have aj:=Aside0.mk hbox;have vQ:=qz HB hg;have hH:=qz HB hg;replace HB:=qs HB hb;have ap:=qn af hg;have aw:=qN af hg;replace af:=qb af hb;have bm:=qn ai hg;have cM:=qN ai hg;replace ai:=qb ai hb;clear hb hbox hg;obtain ⟨bA,bB,sK⟩:=Kd.R_slice cu.out;subst sK;have ww:=aw.out;have wP:=ap.out;have wx:=cM.out;have wQ:=bm.out;refine qc3 aj fun fU fV fW gG gH gI=>?_;obtain ⟨bE,bF,sL⟩:=Kd.R_slice cv.out;subst sL;obtain ⟨bk,bl,sM⟩:=Kd.R_slice cw.out;subst sM;refine qc3 af fun fX fY fZ gJ gK gL=>?_)|((with_reducible refine gate_dst (N:=24) rfl ?_);refine Kd.R_make Kd.bool _ 4 rfl (N:=24) rfl 55 _ _ rfl hz rfl rfl Try.underlying55 (.bool false) 1 info4 rfl (by decide) (by omega) false (ok:=fun _=>True) (okp:=fun _=>True) rfl (fun _ hk=>hk) trivial od (Nat.le_trans (Nat.mul_le_mul_right _ (od:hz.toNat≤281474976710656)) (by omega)) (Below.refl _ _) (Nat.le_refl _) ?_;intro cJ xZ jj hb hg_ hnew_;clear hg_ hnew_;(rw [← kA.out] at jj);replace cu:=Aside0.mk (Kd.R_below (by exact (Kd.R_mono (Kd.R_far (p:=⟨aU,2,none⟩) (Kd.R_far (p:=⟨aU,1,none⟩) (Kd.R_far (p:=⟨aU,0,none⟩) (Kd.R_types cu.out aj.out (by decide)) (fun _ hk=>hk.2) (.slice bA bh.length bB)) (fun _ hk=>hk.2) (.slice bE bi.length bF)) (fun _ hk=>hk.2) (.slice bk aW.length bl)) (fun _ h_=>h_.1))) hb);replace cv:=Aside0.mk (Kd.R_below (by exact (Kd.R_mono (Kd.R_far (p:=⟨aU,2,none⟩) (Kd.R_far (p:=⟨aU,1,none⟩) (Kd.R_far (p:=⟨aU,0,none⟩) (Kd.R_types cv.out aj.out (by decide)) (fun _ hk=>hk.2) (.slice bA bh.length bB)) (fun _ hk=>hk.2) (.slice bE bi.length bF)) (fun _ hk=>hk.2) (.slice bk aW.length bl)) (fun _ h_=>h_.1))) hb);replace cw:=Aside0.mk (Kd.R_below (by exact (Kd.R_mono (Kd.R_far (p:=⟨aU,2,none⟩) (Kd.R_far (p:=⟨aU,1,none⟩) (Kd.R_far (p:=⟨aU,0,none⟩) (Kd.R_types cw.out aj.out (by decide)) (fun _ hk=>hk.2) (.slice bA bh.length bB)) (fun _ hk=>hk.2) (.slice bE bi.length bF)) (fun _ hk=>hk.2) (.slice bk aW.length bl)) (fun _ h_=>h_.1))) hb);have dJ:=Aside0.mk (Kd.R_lower jj (below_size (by repeat ((with_reducible first | exact HB.out | refine b_st ?_ hH.out)))));replace af:=Aside0.mk (blk_below (g:=bc) (o:=.cells #[.slice bD ad.length bp,.slice bu ay.length bq,.slice bo aP.length br] 30 (0,0)) (by refine blk_far ?_ ap.out _;refine blk_far ?_ ap.out _;refine blk_far ?_ ap.out _;exact af.out) hb);replace ai:=Aside0.mk (blk_below (g:=aJ) (o:=.cells #[.slice none 0 0,.slice none 0 0,.slice none 0 0] 30 (0,0)) (by refine blk_far ?_ bm.out _;refine blk_far ?_ bm.out _;refine blk_far ?_ bm.out _;exact ai.out) hb);replace aj:=Aside0.mk (blk_below (g:=aU) (o:=.cells #[.slice bA bh.length bB,.slice bE bi.length bF,.slice bk aW.length bl] 30 (0,0)) (by refine blk_put (cs:=#[.slice bA bh.length bB,.slice bE bi.length bF,.slice none 0 0]) ?_ 2 _ rfl;refine blk_put (cs:=#[.slice bA bh.length bB,.slice none 0 0,.slice none 0 0]) ?_ 1 _ rfl;refine blk_put (cs:=#[.slice none 0 0,.slice none 0 0,.slice none 0 0]) ?_ 0 _ rfl;exact aj.out) hb);replace HB:=Aside0.mk (below_step (by repeat ((with_reducible first | exact HB.out | refine b_st ?_ hH.out))) hb);clear hb jj;refine qc3 af fun ga gb gc gM gN gO=>?_)|((with_reducible refine gate_dst (N:=29) rfl ?_);refine Kd.R_make Kd.bool _ 4 rfl (N:=29) rfl 55 _ _ rfl hA rfl rfl Try.underlying55 (.bool false) 1 info4 rfl (by decide) (by omega) false (ok:=fun _=>True) (okp:=fun _=>True) rfl (fun _ hk=>hk) trivial od (Nat.le_trans (Nat.mul_le_mul_right _ (od:hA.toNat≤281474976710656)) (by omega)) (Below.refl _ _) (Nat.le_refl _) ?_;intro be ya gW hb hg_ hnew_;clear hg_ hnew_;(rw [← kB.out] at gW);replace cu:=qB cu hb;replace cv:=qB cv hb;replace cw:=qB cw hb;have kx:=ql (qw gW dJ) HB;replace dJ:=qe dJ gW hb;replace af:=qb af hb;replace ai:=qb ai hb;replace aj:=qb aj hb;replace HB:=qs HB hb;clear hb gW))
 go_loopg [6] k (fun kq v6 w'=>∃ (bn:List Bool) (aX:Int),v6=.int .i64 aX∧Aside0 (rfFuse.l0 kq bn fH aX ad ay aP bh bi aW=some (r1,r2,r3))∧Aside0 (kq≤k)∧Aside0 (Kd.R Kd.bool 4 w' w.heap.size (fun k_=>some k_≠(be:Value).ownBlock) cJ bn)∧Aside0 (Kd.R Kd.bool 4 w' w.heap.size (fun k_=>some k_≠(cJ:Value).ownBlock) be fH)∧Aside0 (Kd.R k35 35 w' w.heap.size (fun k_=>some k_≠((.slice bE bi.length bF):Value).ownBlock) (.slice bA bh.length bB) bh)∧Aside0 (Kd.R k35 35 w' w.heap.size (fun k_=>some k_≠((.slice bA bh.length bB):Value).ownBlock) (.slice bE bi.length bF) bi)∧Aside0 (Kd.R k37 37 w' w.heap.size (fun _=>True) (.slice bk aW.length bl) aW)∧Aside0 (w'.heap[bc]?=some (.cells #[(.slice bD ad.length bp),(.slice bu ay.length bq),(.slice bo aP.length br)] 30 (0,0)))∧Aside0 (w'.heap[aJ]?=some (.cells #[(.slice none 0 0),(.slice none 0 0),(.slice none 0 0)] 30 (0,0)))∧Aside0 (w'.heap[aU]?=some (.cells #[(.slice bA bh.length bB),(.slice bE bi.length bF),(.slice bk aW.length bl)] 30 (0,0)))∧Aside0 (Below w.heap.size w w'))
 case atStart=>exact ⟨(vH),(0),rfl,H',⟨Nat.le_refl _⟩,⟨by exact Kd.R_mono dJ.out (fun _ hk=>hk.2)⟩,⟨by exact Kd.R_mono kx.out (fun _ hk=>hk.2)⟩,cu,cv,cw,af,ai,aj,HB⟩
 clear H'
 clear kY kZ la lb lc ld le lf fO fP fQ fR fS fT fU fV fW fX fY fZ ga gb gc gA gB gC gD gE gF gG gH gI gJ gK gL gM gN gO
 obtain ⟨bn,aX,rfl,HA,bz,al,ao,ab,ac,ae,af,ai,aj,HB⟩:=hrel
 obtain _ | k1:=gk
 ·exact absurd HA.out (by simp [rfFuse.l0])
 have H:=HA.out
 clear HA
 simp only [rfFuse.l0] at H
 by_cases jY:aX < (ad.length:Int)
 ·rw [if_pos jY] at H
  have hY:=decide_eq_true jY
  clear jY
  replace H:=iNd H
  obtain ⟨vS,H⟩:=H
  by_cases lg:((rdQ ad aX).f0)=2
  ·rw [if_pos lg] at H
   obtain ⟨lh,li⟩:=cBt lg
   clear lg
   replace H:=iNd H
   obtain ⟨vT,H⟩:=H
   replace H:=iNd H
   obtain ⟨vU,H⟩:=H
   obtain ⟨pK,fs⟩:∃ y_:List Bool,y_=(bn.set (((rdQ ad aX).f2):Int).toNat true):=⟨_,rfl⟩
   rw [← fs] at H
   have kC:=Aside0.mk fs
   clear fs
   have H':=Aside0.mk H
   clear H
   have wy:=ar.out
   have wR:=au.out
   have wz:=ap.out
   have wS:=aw.out
   refine qc3 af fun qp qq qu qY qZ ra=>?_
   obtain ⟨cN,dv,jA,jM,cV,cW,cX,cY,cZ⟩:=rd35 av HB aX
   cases dv
   obtain ⟨kN,sy,xr,xw,rv,rx,ry,rz,rA⟩:=rd35 av HB aX
   obtain rfl:cN=kN:=(by injection sy)
   have vl:0≤(((rdQ ad aX).f2):Int):=od
   have vu:(((rdQ ad aX).f2):Int) < ((bn.length:Int):Int):=od
   obtain ⟨eS,iU,lJ,lO,sN,xi,se⟩:=Kd.R_form al.out (by omega)
   (first | cases lJ | (injection lJ with ea_ en_ ec_;(fail);subst ec_;clear en_))
   have rZ:=Aside0.mk lO
   clear lO sN se
   obtain ⟨uW,sV⟩:=Kd.R_celln false al.out (((rdQ ad aX).f2):Int) vl vu
   replace vl:=eq_true vl
   replace vu:=eq_true vu
   have iE:=Kd.R_putg al.out (((rdQ ad aX).f2):Int) true
   go_wp2_with (((with_reducible refine gate_store (t:=4) (p:=52) rfl ?_);refine store_event (t:=4) (p:=52) (v:=?pY) (w1:=(wr.setCell ⟨eS,(((rdQ ad aX).f2):Int).toNat,none⟩ (.bool true))) ?hg ?ho ?hn ?hr ?_;(case ho=>rfl);(case hg=>rfl);(case hn=>rfl);(case hr=>(go_simp;done));intro vD hw;have hg:wr.grownBy vD (some eS):=(by rw [hw];exact iE.2);have hp_:Kd.R Kd.bool 4 vD w.heap.size (fun k_=>some k_≠(be:Value).ownBlock) (.slice (some ⟨eS,0,none⟩) bn.length iU) pK:=(by rw [hw,kC.out];exact iE.1);clear iE;replace ao:=Aside0.mk (Kd.R_after (v:=(.slice (some ⟨eS,0,none⟩) bn.length iU)) (v1:=(.slice (some ⟨eS,0,none⟩) bn.length iU)) (ok:=(fun _=>True)) (by exact Kd.R_mono ao.out (fun _ hk=>⟨trivial,hk⟩)) hg (.inl rfl));replace ab:=qo ab al (by decide) hg;replace ac:=qo ac al (by decide) hg;replace ae:=qo ae al (by decide) hg;replace af:=qg af hg al (by decide);replace ai:=qg ai hg al (by decide);replace aj:=qg aj hg al (by decide);replace al:=Aside0.mk hp_;replace HB:=Aside0.mk ((by rw [hw];exact b_st (HB.out) rZ.out:Below w.heap.size w vD));clear hg hw hp_))
   go_roundg k1
   case measure=>have:=bz.out;omega
   case rel=>exact ⟨(pK),(wrap64 (aX+1)),rfl,H',⟨by have:=bz.out;omega⟩,al,⟨by exact Kd.R_mono ao.out (fun _ hk=>hk.2)⟩,ab,ac,ae,af,ai,aj,HB⟩
  rw [if_neg lg] at H
  obtain ⟨lh,li⟩:=cBf lg
  by_cases lj:((rdQ ad aX).f0)=3
  ·rw [if_pos lj] at H
   obtain ⟨lk,ll⟩:=cBt lj
   clear lj
   replace H:=iNd H
   obtain ⟨vV,H⟩:=H
   replace H:=iNd H
   obtain ⟨vW,H⟩:=H
   obtain ⟨pM,ft⟩:∃ y_:List Bool,y_=(bn.set (((rdQ ad aX).f1):Int).toNat true):=⟨_,rfl⟩
   rw [← ft] at H
   have kD:=Aside0.mk ft
   clear ft
   have H':=Aside0.mk H
   clear H
   have wA:=ar.out
   have wT:=au.out
   have wB:=ap.out
   have wU:=aw.out
   refine qc3 af fun qv qx qy rb rc rd=>?_
   obtain ⟨cN,dv,jA,jM,cV,cW,cX,cY,cZ⟩:=rd35 av HB aX
   cases dv
   obtain ⟨kO,sz,xs,xx,rB,rC,rD,rE,rF⟩:=rd35 av HB aX
   obtain rfl:cN=kO:=(by injection sz)
   have vm:0≤(((rdQ ad aX).f1):Int):=od
   have vv:(((rdQ ad aX).f1):Int) < ((bn.length:Int):Int):=od
   obtain ⟨eT,iV,lK,lP,sO,xj,sf⟩:=Kd.R_form al.out (by omega)
   (first | cases lK | (injection lK with ea_ en_ ec_;(fail);subst ec_;clear en_))
   have sa:=Aside0.mk lP
   clear lP sO sf
   obtain ⟨uX,sW⟩:=Kd.R_celln false al.out (((rdQ ad aX).f1):Int) vm vv
   replace vm:=eq_true vm
   replace vv:=eq_true vv
   have iG:=Kd.R_putg al.out (((rdQ ad aX).f1):Int) true
   go_wp2_with (((with_reducible refine gate_store (t:=4) (p:=63) rfl ?_);refine store_event (t:=4) (p:=63) (v:=?pZ) (w1:=(wr.setCell ⟨eT,(((rdQ ad aX).f1):Int).toNat,none⟩ (.bool true))) ?hg ?ho ?hn ?hr ?_;(case ho=>rfl);(case hg=>rfl);(case hn=>rfl);(case hr=>(go_simp;done));intro vE hw;have hg:wr.grownBy vE (some eT):=(by rw [hw];exact iG.2);have hp_:Kd.R Kd.bool 4 vE w.heap.size (fun k_=>some k_≠(be:Value).ownBlock) (.slice (some ⟨eT,0,none⟩) bn.length iV) pM:=(by rw [hw,kD.out];exact iG.1);clear iG;replace ao:=Aside0.mk (Kd.R_after (v:=(.slice (some ⟨eT,0,none⟩) bn.length iV)) (v1:=(.slice (some ⟨eT,0,none⟩) bn.length iV)) (ok:=(fun _=>True)) (by exact Kd.R_mono ao.out (fun _ hk=>⟨trivial,hk⟩)) hg (.inl rfl));replace ab:=qo ab al (by decide) hg;replace ac:=qo ac al (by decide) hg;replace ae:=qo ae al (by decide) hg;replace af:=qg af hg al (by decide);replace ai:=qg ai hg al (by decide);replace aj:=qg aj hg al (by decide);replace al:=Aside0.mk hp_;replace HB:=Aside0.mk ((by rw [hw];exact b_st (HB.out) sa.out:Below w.heap.size w vE));clear hg hw hp_))
   go_roundg k1
   case measure=>have:=bz.out;omega
   case rel=>exact ⟨(pM),(wrap64 (aX+1)),rfl,H',⟨by have:=bz.out;omega⟩,al,⟨by exact Kd.R_mono ao.out (fun _ hk=>hk.2)⟩,ab,ac,ae,af,ai,aj,HB⟩
  rw [if_neg lj] at H
  obtain ⟨lk,ll⟩:=cBf lj
  by_cases lm:((rdQ ad aX).f0)=4
  ·rw [if_pos lm] at H
   obtain ⟨ln,lo⟩:=cBt lm
   clear lm
   replace H:=iNd H
   obtain ⟨vX,H⟩:=H
   replace H:=iNd H
   obtain ⟨vY,H⟩:=H
   obtain ⟨pN,fu⟩:∃ y_:List Bool,y_=(bn.set (((rdQ ad aX).f1):Int).toNat true):=⟨_,rfl⟩
   rw [← fu] at H
   have kE:=Aside0.mk fu
   clear fu
   have H':=Aside0.mk H
   clear H
   have wC:=ar.out
   have wV:=au.out
   have wD:=ap.out
   have wW:=aw.out
   refine qc3 af fun qA qC qE re rf rg=>?_
   obtain ⟨cN,dv,jA,jM,cV,cW,cX,cY,cZ⟩:=rd35 av HB aX
   cases dv
   obtain ⟨kP,sA,xt,xy,rG,rH,rI,rJ,rK⟩:=rd35 av HB aX
   obtain rfl:cN=kP:=(by injection sA)
   have vn:0≤(((rdQ ad aX).f1):Int):=od
   have vw:(((rdQ ad aX).f1):Int) < ((bn.length:Int):Int):=od
   obtain ⟨eU,iW,lL,lQ,sP,xk,sg⟩:=Kd.R_form al.out (by omega)
   (first | cases lL | (injection lL with ea_ en_ ec_;(fail);subst ec_;clear en_))
   have sb:=Aside0.mk lQ
   clear lQ sP sg
   obtain ⟨uY,sX⟩:=Kd.R_celln false al.out (((rdQ ad aX).f1):Int) vn vw
   replace vn:=eq_true vn
   replace vw:=eq_true vw
   have iH:=Kd.R_putg al.out (((rdQ ad aX).f1):Int) true
   go_wp2_with (((with_reducible refine gate_store (t:=4) (p:=63) rfl ?_);refine store_event (t:=4) (p:=63) (v:=?qa) (w1:=(wr.setCell ⟨eU,(((rdQ ad aX).f1):Int).toNat,none⟩ (.bool true))) ?hg ?ho ?hn ?hr ?_;(case ho=>rfl);(case hg=>rfl);(case hn=>rfl);(case hr=>(go_simp;done));intro vF hw;have hg:wr.grownBy vF (some eU):=(by rw [hw];exact iH.2);have hp_:Kd.R Kd.bool 4 vF w.heap.size (fun k_=>some k_≠(be:Value).ownBlock) (.slice (some ⟨eU,0,none⟩) bn.length iW) pN:=(by rw [hw,kE.out];exact iH.1);clear iH;replace ao:=Aside0.mk (Kd.R_after (v:=(.slice (some ⟨eU,0,none⟩) bn.length iW)) (v1:=(.slice (some ⟨eU,0,none⟩) bn.length iW)) (ok:=(fun _=>True)) (by exact Kd.R_mono ao.out (fun _ hk=>⟨trivial,hk⟩)) hg (.inl rfl));replace ab:=qo ab al (by decide) hg;replace ac:=qo ac al (by decide) hg;replace ae:=qo ae al (by decide) hg;replace af:=qg af hg al (by decide);replace ai:=qg ai hg al (by decide);replace aj:=qg aj hg al (by decide);replace al:=Aside0.mk hp_;replace HB:=Aside0.mk ((by rw [hw];exact b_st (HB.out) sb.out:Below w.heap.size w vF));clear hg hw hp_))
   go_roundg k1
   case measure=>have:=bz.out;omega
   case rel=>exact ⟨(pN),(wrap64 (aX+1)),rfl,H',⟨by have:=bz.out;omega⟩,al,⟨by exact Kd.R_mono ao.out (fun _ hk=>hk.2)⟩,ab,ac,ae,af,ai,aj,HB⟩
  rw [if_neg lm] at H
  obtain ⟨ln,lo⟩:=cBf lm
  have H':=Aside0.mk H
  clear H
  have wE:=ar.out
  have wX:=au.out
  have wF:=ap.out
  have wY:=aw.out
  refine qc3 af fun qF qG qH rh ri rj=>?_
  obtain ⟨cN,dv,jA,jM,cV,cW,cX,cY,cZ⟩:=rd35 av HB aX
  cases dv
  go_wp2
  go_roundg k1
  case measure=>have:=bz.out;omega
  case rel=>exact ⟨(bn),(wrap64 (aX+1)),rfl,H',⟨by have:=bz.out;omega⟩,al,ao,ab,ac,ae,af,ai,aj,HB⟩
 rw [if_neg jY] at H
 have hY:=decide_eq_false jY
 clear jY
 have H':=Aside0.mk H
 clear H
 have wG:=ar.out
 have wZ:=au.out
 have wH:=ap.out
 have xa:=aw.out
 refine qc3 af fun gd ge gf gP gQ gR=>?_
 go_wp2
 go_loopg [7] k1 (fun kq v7 w'=>∃ (bf:List Bool) (cB:Int),v7=.int .i64 cB∧Aside0 (rfFuse.l1 kq bf fH cB ad ay aP bh bi aW=some (r1,r2,r3))∧Aside0 (kq≤k1)∧Aside0 (Kd.R Kd.bool 4 w' w.heap.size (fun k_=>some k_≠(be:Value).ownBlock) cJ bf)∧Aside0 (Kd.R Kd.bool 4 w' w.heap.size (fun k_=>some k_≠(cJ:Value).ownBlock) be fH)∧Aside0 (Kd.R k35 35 w' w.heap.size (fun k_=>some k_≠((.slice bE bi.length bF):Value).ownBlock) (.slice bA bh.length bB) bh)∧Aside0 (Kd.R k35 35 w' w.heap.size (fun k_=>some k_≠((.slice bA bh.length bB):Value).ownBlock) (.slice bE bi.length bF) bi)∧Aside0 (Kd.R k37 37 w' w.heap.size (fun _=>True) (.slice bk aW.length bl) aW)∧Aside0 (w'.heap[bc]?=some (.cells #[(.slice bD ad.length bp),(.slice bu ay.length bq),(.slice bo aP.length br)] 30 (0,0)))∧Aside0 (w'.heap[aJ]?=some (.cells #[(.slice none 0 0),(.slice none 0 0),(.slice none 0 0)] 30 (0,0)))∧Aside0 (w'.heap[aU]?=some (.cells #[(.slice bA bh.length bB),(.slice bE bi.length bF),(.slice bk aW.length bl)] 30 (0,0)))∧Aside0 (Below w.heap.size w w'))
 case atStart=>exact ⟨(bn),(0),rfl,H',⟨Nat.le_refl _⟩,al,ao,ab,ac,ae,af,ai,aj,HB⟩
 clear H'
 clear hY gd ge gf gP gQ gR
 obtain ⟨bf,cB,rfl,HA,ct,al,ao,ab,ac,ae,af,ai,aj,HB⟩:=hrel
 obtain _ | k2:=gk
 ·exact absurd HA.out (by simp [rfFuse.l1])
 have H:=HA.out
 clear HA
 simp only [rfFuse.l1] at H
 by_cases jZ:cB < (aP.length:Int)
 ·rw [if_pos jZ] at H
  have hZ:=decide_eq_true jZ
  clear jZ
  replace H:=iNd H
  obtain ⟨vZ,H⟩:=H
  replace H:=iNd H
  obtain ⟨wa,H⟩:=H
  replace H:=iNd H
  obtain ⟨wb,H⟩:=H
  obtain ⟨pO,fv⟩:∃ y_:List Bool,y_=(bf.set (((rdR aP cB).f1):Int).toNat true):=⟨_,rfl⟩
  rw [← fv] at H
  have kF:=Aside0.mk fv
  clear fv
  have H':=Aside0.mk H
  clear H
  have wI:=ar.out
  have xb:=au.out
  have wJ:=ap.out
  have xc:=aw.out
  refine qc3 af fun qI qJ qK rk rl rm=>?_
  obtain ⟨vR,sB,xu,xz,rL,rM⟩:=rd37 dk HB cB
  cases sB
  have vo:0≤(((rdR aP cB).f1):Int):=od
  have vx:(((rdR aP cB).f1):Int) < ((bf.length:Int):Int):=od
  obtain ⟨eV,iX,lM,lR,sQ,xl,sh⟩:=Kd.R_form al.out (by omega)
  (first | cases lM | (injection lM with ea_ en_ ec_;(fail);subst ec_;clear en_))
  have sc:=Aside0.mk lR
  clear lR sQ sh
  obtain ⟨uZ,sY⟩:=Kd.R_celln false al.out (((rdR aP cB).f1):Int) vo vx
  replace vo:=eq_true vo
  replace vx:=eq_true vx
  have iI:=Kd.R_putg al.out (((rdR aP cB).f1):Int) true
  go_wp2_with (((with_reducible refine gate_store (t:=4) (p:=78) rfl ?_);refine store_event (t:=4) (p:=78) (v:=?qc) (w1:=(wr.setCell ⟨eV,(((rdR aP cB).f1):Int).toNat,none⟩ (.bool true))) ?hg ?ho ?hn ?hr ?_;(case ho=>rfl);(case hg=>rfl);(case hn=>rfl);(case hr=>(go_simp;done));intro vG hw;have hg:wr.grownBy vG (some eV):=(by rw [hw];exact iI.2);have hp_:Kd.R Kd.bool 4 vG w.heap.size (fun k_=>some k_≠(be:Value).ownBlock) (.slice (some ⟨eV,0,none⟩) bf.length iX) pO:=(by rw [hw,kF.out];exact iI.1);clear iI;replace ao:=Aside0.mk (Kd.R_after (v:=(.slice (some ⟨eV,0,none⟩) bf.length iX)) (v1:=(.slice (some ⟨eV,0,none⟩) bf.length iX)) (ok:=(fun _=>True)) (by exact Kd.R_mono ao.out (fun _ hk=>⟨trivial,hk⟩)) hg (.inl rfl));replace ab:=qo ab al (by decide) hg;replace ac:=qo ac al (by decide) hg;replace ae:=qo ae al (by decide) hg;replace af:=qg af hg al (by decide);replace ai:=qg ai hg al (by decide);replace aj:=qg aj hg al (by decide);replace al:=Aside0.mk hp_;replace HB:=Aside0.mk ((by rw [hw];exact b_st (HB.out) sc.out:Below w.heap.size w vG));clear hg hw hp_))
  go_roundg k2
  case measure=>have:=bz.out;have:=ct.out;omega
  case rel=>exact ⟨(pO),(wrap64 (cB+1)),rfl,H',⟨by have:=bz.out;have:=ct.out;omega⟩,al,⟨by exact Kd.R_mono ao.out (fun _ hk=>hk.2)⟩,ab,ac,ae,af,ai,aj,HB⟩
 rw [if_neg jZ] at H
 have hZ:=decide_eq_false jZ
 clear jZ
 have H':=Aside0.mk H
 clear H
 have wK:=ar.out
 have xd:=au.out
 have wL:=ap.out
 have xe:=aw.out
 refine qc3 af fun gg gh gi gS gT gU=>?_
 go_wp2
 go_loopg [8] k2 (fun kq v8 w'=>∃ (bv:List Bool) (bC:Int),v8=.int .i64 bC∧Aside0 (rfFuse.l2 kq bf bv bC ad ay aP bh bi aW=some (r1,r2,r3))∧Aside0 (kq≤k2)∧Aside0 (Kd.R Kd.bool 4 w' w.heap.size (fun k_=>some k_≠(be:Value).ownBlock) cJ bf)∧Aside0 (Kd.R Kd.bool 4 w' w.heap.size (fun k_=>some k_≠(cJ:Value).ownBlock) be bv)∧Aside0 (Kd.R k35 35 w' w.heap.size (fun k_=>some k_≠((.slice bE bi.length bF):Value).ownBlock) (.slice bA bh.length bB) bh)∧Aside0 (Kd.R k35 35 w' w.heap.size (fun k_=>some k_≠((.slice bA bh.length bB):Value).ownBlock) (.slice bE bi.length bF) bi)∧Aside0 (Kd.R k37 37 w' w.heap.size (fun _=>True) (.slice bk aW.length bl) aW)∧Aside0 (w'.heap[bc]?=some (.cells #[(.slice bD ad.length bp),(.slice bu ay.length bq),(.slice bo aP.length br)] 30 (0,0)))∧Aside0 (w'.heap[aJ]?=some (.cells #[(.slice none 0 0),(.slice none 0 0),(.slice none 0 0)] 30 (0,0)))∧Aside0 (w'.heap[aU]?=some (.cells #[(.slice bA bh.length bB),(.slice bE bi.length bF),(.slice bk aW.length bl)] 30 (0,0)))∧Aside0 (Below w.heap.size w w'))
 case atStart=>exact ⟨(fH),(0),rfl,H',⟨Nat.le_refl _⟩,al,ao,ab,ac,ae,af,ai,aj,HB⟩
 clear H'
 clear hZ gg gh gi gS gT gU
 obtain ⟨bv,bC,rfl,HA,cC,al,ao,ab,ac,ae,af,ai,aj,HB⟩:=hrel
 obtain _ | k3:=gk
 ·exact absurd HA.out (by simp [rfFuse.l2])
 have H:=HA.out
 clear HA
 simp only [rfFuse.l2] at H
 by_cases ka:bC < (ay.length:Int)
 ·rw [if_pos ka] at H
  have ia:=decide_eq_true ka
  clear ka
  replace H:=iNd H
  obtain ⟨wc,H⟩:=H
  by_cases lp:((rdQ ay bC).f0)=16
  ·rw [if_pos lp] at H
   obtain ⟨lq,lr⟩:=cBt lp
   clear lp
   replace H:=iNd H
   obtain ⟨wd,H⟩:=H
   replace H:=iNd H
   obtain ⟨we,H⟩:=H
   obtain ⟨pP,fw⟩:∃ y_:List Bool,y_=(bv.set (((rdQ ay bC).f2):Int).toNat true):=⟨_,rfl⟩
   rw [← fw] at H
   have kG:=Aside0.mk fw
   clear fw
   have H':=Aside0.mk H
   clear H
   have wM:=ar.out
   have xf:=au.out
   have wN:=ap.out
   have xg:=aw.out
   refine qc3 af fun qL qM qO rn ro rp=>?_
   obtain ⟨hX,iZ,vh,vq,ht,hu,hv,hx,hy⟩:=rd35 bg HB bC
   cases iZ
   obtain ⟨kQ,sC,xv,xA,rN,rO,rP,rQ,rR⟩:=rd35 bg HB bC
   obtain rfl:hX=kQ:=(by injection sC)
   have vp:0≤(((rdQ ay bC).f2):Int):=od
   have vy:(((rdQ ay bC).f2):Int) < ((bv.length:Int):Int):=od
   obtain ⟨eW,iY,lN,lS,sR,xm,si⟩:=Kd.R_form ao.out (by omega)
   (first | cases lN | (injection lN with ea_ en_ ec_;(fail);subst ec_;clear en_))
   have sd:=Aside0.mk lS
   clear lS sR si
   obtain ⟨va,sZ⟩:=Kd.R_celln false ao.out (((rdQ ay bC).f2):Int) vp vy
   replace vp:=eq_true vp
   replace vy:=eq_true vy
   have eu:=Kd.R_putg ao.out (((rdQ ay bC).f2):Int) true
   go_wp2_with (((with_reducible refine gate_store (t:=4) (p:=100) rfl ?_);refine store_event (t:=4) (p:=100) (v:=?kb) (w1:=(wr.setCell ⟨eW,(((rdQ ay bC).f2):Int).toNat,none⟩ (.bool true))) ?hg ?ho ?hn ?hr ?_;(case ho=>rfl);(case hg=>rfl);(case hn=>rfl);(case hr=>(go_simp;done));intro jU hw;have hg:wr.grownBy jU (some eW):=(by rw [hw];exact eu.2);have hp_:Kd.R Kd.bool 4 jU w.heap.size (fun k_=>some k_≠(cJ:Value).ownBlock) (.slice (some ⟨eW,0,none⟩) bv.length iY) pP:=(by rw [hw,kG.out];exact eu.1);clear eu;replace al:=Aside0.mk (Kd.R_after (v:=(.slice (some ⟨eW,0,none⟩) bv.length iY)) (v1:=(.slice (some ⟨eW,0,none⟩) bv.length iY)) (ok:=(fun _=>True)) (by exact Kd.R_mono al.out (fun _ hk=>⟨trivial,hk⟩)) hg (.inl rfl));replace ab:=qo ab ao (by decide) hg;replace ac:=qo ac ao (by decide) hg;replace ae:=qo ae ao (by decide) hg;replace af:=qg af hg ao (by decide);replace ai:=qg ai hg ao (by decide);replace aj:=qg aj hg ao (by decide);replace ao:=Aside0.mk hp_;replace HB:=Aside0.mk ((by rw [hw];exact b_st (HB.out) sd.out:Below w.heap.size w jU));clear hg hw hp_))
   go_roundg k3
   case measure=>have:=bz.out;have:=ct.out;have:=cC.out;omega
   case rel=>exact ⟨(pP),(wrap64 (bC+1)),rfl,H',⟨by have:=bz.out;have:=ct.out;have:=cC.out;omega⟩,⟨by exact Kd.R_mono al.out (fun _ hk=>hk.2)⟩,ao,ab,ac,ae,af,ai,aj,HB⟩
  rw [if_neg lp] at H
  obtain ⟨lq,lr⟩:=cBf lp
  have H':=Aside0.mk H
  clear H
  have tf:=ar.out
  have ub:=au.out
  have tg:=ap.out
  have uc:=aw.out
  refine qc3 af fun lZ ma mb nN nO nP=>?_
  obtain ⟨hX,iZ,vh,vq,ht,hu,hv,hx,hy⟩:=rd35 bg HB bC
  cases iZ
  go_wp2
  go_roundg k3
  case measure=>have:=bz.out;have:=ct.out;have:=cC.out;omega
  case rel=>exact ⟨(bv),(wrap64 (bC+1)),rfl,H',⟨by have:=bz.out;have:=ct.out;have:=cC.out;omega⟩,al,ao,ab,ac,ae,af,ai,aj,HB⟩
 rw [if_neg ka] at H
 have ia:=decide_eq_false ka
 clear ka
 replace H:=Option.bind_eq_some_iff.mp H
 obtain ⟨pF,hE,H⟩:=H
 try dsimp only at H
 have rV:=Aside0.mk hE
 clear hE
 have H':=Aside0.mk H
 clear H
 have th:=ar.out
 have ud:=au.out
 have ti:=ap.out
 have ue:=aw.out
 refine qc3 af fun fd fe ff fj fk fm=>?_
 go_wp2_with (first | ((with_reducible refine gate_callee (f:=40) rfl ?_);refine goesL_ (some 104) rfl rfl Try.func40 (by kernel_rfl) rfl #[.int .i64 (ad.length:Int)] rfl (by (try simp only [List.map_toArray,List.map_cons,List.map_nil]);(rfl)) ?_;(with_reducible refine (rfall.calls k3 (ad.length:Int) pF _ rV.out).mono ?_);rintro e xM ⟨cl,rfl,cI,hb⟩;refine ⟨_,rfl,?_⟩;replace ab:=qB ab hb;replace ac:=qB ac hb;replace ae:=qB ae hb;have ky:=ql (qw (qw cI al) ao) HB;replace al:=qe al cI hb;replace ao:=qe ao cI hb;replace af:=qb af hb;replace ai:=qb ai hb;replace aj:=qb aj hb;replace HB:=qs HB hb;(try clear hb);(try clear cI)))
 go_loopg [10] k3 (fun kq xB w'=>∃ (bd:List Bool) (ah:Int) (ak:List (S35)) (aI:List (S35)) (u382000:Value) (u382001:Value),xB=.int .i64 ah∧Aside0 (rfFuse.l3 kq bf bv bd ah ad ay aP ak aI aW=some (r1,r2,r3))∧Aside0 (kq≤k3)∧Aside0 (Kd.R Kd.bool 4 w' w.heap.size (fun k_=>some k_≠(be:Value).ownBlock∧some k_≠(cl:Value).ownBlock) cJ bf)∧Aside0 (Kd.R Kd.bool 4 w' w.heap.size (fun k_=>some k_≠(cJ:Value).ownBlock∧some k_≠(cl:Value).ownBlock) be bv)∧Aside0 (Kd.R Kd.bool 4 w' w.heap.size (fun k_=>some k_≠(cJ:Value).ownBlock∧some k_≠(be:Value).ownBlock) cl bd)∧Aside0 (Kd.R k35 35 w' w.heap.size (fun k_=>some k_≠(u382001:Value).ownBlock) u382000 ak)∧Aside0 (Kd.R k35 35 w' w.heap.size (fun k_=>some k_≠(u382000:Value).ownBlock) u382001 aI)∧Aside0 (Kd.R k37 37 w' w.heap.size (fun _=>True) (.slice bk aW.length bl) aW)∧Aside0 (w'.heap[bc]?=some (.cells #[(.slice bD ad.length bp),(.slice bu ay.length bq),(.slice bo aP.length br)] 30 (0,0)))∧Aside0 (w'.heap[aJ]?=some (.cells #[(.slice none 0 0),(.slice none 0 0),(.slice none 0 0)] 30 (0,0)))∧Aside0 (w'.heap[aU]?=some (.cells #[u382000,u382001,(.slice bk aW.length bl)] 30 (0,0)))∧Aside0 (Below w.heap.size w w'))
 case atStart=>exact ⟨(pF),(0),(bh),(bi),(.slice bA bh.length bB),(.slice bE bi.length bF),rfl,H',⟨Nat.le_refl _⟩,al,ao,⟨by exact Kd.R_mono ky.out (fun _ hk=>⟨hk.1.2,hk.2⟩)⟩,ab,ac,ae,af,ai,aj,HB⟩
 clear H'
 clear ia fd fe ff fj fk fm
 obtain ⟨bd,ah,ak,aI,u382000,u382001,rfl,HA,cL,al,ao,ax,ab,ac,ae,af,ai,aj,HB⟩:=hrel
 obtain _ | k4:=gk
 ·exact absurd HA.out (by simp [rfFuse.l3])
 have H:=HA.out
 clear HA
 simp only [rfFuse.l3] at H
 by_cases en:(wrap64 (ah+1)) < (ad.length:Int)
 ·rw [if_pos en] at H
  have du:=decide_eq_true en
  clear en
  obtain ⟨aa,dA⟩:∃ j_:Int,(wrap64 (ah+1))=j_:=⟨_,rfl⟩
  rw [dA] at H
  (try rw [dA] at du)
  have rq:(IntKind.i64.wrap (ah+1))=aa:=(i64_w _).trans dA
  replace H:=iNd H
  obtain ⟨sj,H⟩:=H
  replace H:=iNd H
  obtain ⟨sk,H⟩:=H
  replace H:=iNd H
  obtain ⟨sl,H⟩:=H
  by_cases eH:((rdQ ad ah).f0)=5
  ·rw [if_pos eH] at H
   obtain ⟨iJ,iK⟩:=cBt eH
   clear eH
   by_cases eI:((rdQ ad (aa)).f0)=7
   ·rw [if_pos eI] at H
    obtain ⟨iL,iM⟩:=cBt eI
    clear eI
    replace H:=iNd H
    obtain ⟨sm,H⟩:=H
    obtain ⟨kV,dx⟩:∃ b_:Bool,b_=(rdOf false bf (aa)):=⟨_,rfl⟩
    rw [← dx] at H
    have eB:=Aside0.mk dx
    clear dx
    by_cases fK:(kV=true)
    ·subst fK
     replace H:=iP H
     have H':=Aside0.mk H
     clear H
     have tj:=ar.out
     have uf:=au.out
     have tk:=ap.out
     have ug:=aw.out
     refine qc3 af fun mc md me nQ nR nS=>?_
     obtain ⟨aF,cD,fD,fE,bM,bN,bO,bP,bQ⟩:=rd35 av HB (aa)
     cases cD
     go_wp2_with (first | ((with_reducible refine gate_dst (N:=11) rfl ?_);refine box_event ?hg (N:=11) ?hd (cs:=#[.int .i64 0,.int .i64 0,.int .i64 0,.int .i64 0,.int .i64 0]) (t:=35) ?hr ?_;(case hd=>rfl);(case hg=>rfl);(case hr=>(go_simp;done));intro ag hg xN hbox hb;replace al:=qB al hb;replace ao:=qB ao hb;replace ax:=qB ax hb;replace ab:=Aside0.mk (Kd.R_below (Kd.R_elderB ab.out ag (Nat.le_of_eq hg.symm)) hb);replace ac:=Aside0.mk (Kd.R_below (Kd.R_elderB ac.out ag (Nat.le_of_eq hg.symm)) hb);replace ae:=qB ae hb;have am:=Aside0.mk hbox;have aE:=qz HB hg;have bw:=qz HB hg;replace HB:=qs HB hb;have aA:=qn af hg;have aQ:=qN af hg;replace af:=qb af hb;have aB:=qn ai hg;have aR:=qN ai hg;replace ai:=qb ai hb;have aC:=qn aj hg;have aS:=qN aj hg;replace aj:=qb aj hb;clear hb hbox hg;have tl:=aQ.out;have uh:=aA.out;have tm:=aR.out;have ui:=aB.out;have tn:=aS.out;have uj:=aC.out;refine qc5 am fun mf mg mh mi mj nT nU nV nW nX=>?_;refine qc3 af fun ml mm mn nY nZ oa=>?_;have aG:0≤(ah:Int):=od;have aH:ah < (ad.length:Int):=od;obtain ⟨bx,cE,aK,aL,aM,aN,aO⟩:=rq35 av HB ah aG aH;obtain rfl:aF=bx:=(by injection cE);have an:=nq35 av ah aG aH aE;have bG:=nq35 av ah aG aH aE;have bH:=nq35 av ah aG aH aE;have bI:=nq35 av ah aG aH aE;have bJ:=nq35 av ah aG aH aE;have hK:=fun w=>@kB5 ag w (0) (1) (2) (3) (4) (.int .i64 ((rdQ ad (aa)).f0)) (.int .i64 ((rdQ ad (aa)).f1)) (.int .i64 ((rdQ ad (aa)).f2)) (.int .i64 ((rdQ ad (aa)).f3)) (.int .i64 ((rdQ ad (aa)).f4));replace aK:=zc aK (by rw [add_block];exact an) (hK _);replace aL:=zc aL (by rw [add_block];exact an) (hK _);replace aM:=zc aM (by rw [add_block];exact an) (hK _);replace aN:=zc aN (by rw [add_block];exact an) (hK _);replace aO:=zc aO (by rw [add_block];exact an) (hK _);clear an;replace aG:=eq_true aG;replace aH:=eq_true aH;obtain ⟨vK,ws,lw⟩:=Kd.R_slice al.out;subst lw;obtain ⟨cx,ja,vi,vr,bs⟩:=rob al (aa);(try rw [← eB.out] at bs);cases ja;have bK:cx.block≠ag:=Kd.own_blk (Kd.R_ne al.out am.out (by decide));replace bs:=zc bs (by rw [add_block];exact bK) (hK _);clear hK;clear bK))
     go_roundg k4
     case measure=>have:=bz.out;have:=ct.out;have:=cC.out;have:=cL.out;omega
     case rel=>exact ⟨(bd),(aa),(ak),(aI),(u382000),(u382001),rfl,H',⟨by have:=bz.out;have:=ct.out;have:=cC.out;have:=cL.out;omega⟩,zR al am (by decide) kb5,zR ao am (by decide) kb5,zR ax am (by decide) kb5,zMm ab (fun _ hk=>hk.2) kb5 (fun _ hk=>hk.1),zMm ac (fun _ hk=>hk.2) kb5 (fun _ hk=>hk.1),zRm ae am (by decide) kb5 (fun _ _=>trivial),zb af aA.out kb5,zb ai aB.out kb5,zb aj aC.out kb5,⟨by repeat ((with_reducible first | exact HB.out | refine b_st ?_ bw.out))⟩⟩
    replace fK:=Bool.eq_false_iff.mpr fK
    subst fK
    replace H:=iF H
    replace H:=iNd H
    obtain ⟨sn,H⟩:=H
    obtain ⟨pQ,fx⟩:∃ y_:List (S35),y_=(ak.set (ah:Int).toNat (⟨wrap64 (((rdQ ad (aa)).f0)+7),(rdQ ad ah).f1,(rdQ ad (aa)).f1,0,0⟩:S35)):=⟨_,rfl⟩
    rw [← fx] at H
    have kH:=Aside0.mk fx
    clear fx
    replace H:=iNd H
    obtain ⟨so,H⟩:=H
    obtain ⟨pR,fy⟩:∃ y_:List Bool,y_=(bd.set ((aa):Int).toNat false):=⟨_,rfl⟩
    rw [← fy] at H
    have kI:=Aside0.mk fy
    clear fy
    have H':=Aside0.mk H
    clear H
    have tp:=ar.out
    have uk:=au.out
    have tq:=ap.out
    have ul:=aw.out
    refine qc3 af fun mo mq mr ob oc oe=>?_
    obtain ⟨aF,cD,fD,fE,bM,bN,bO,bP,bQ⟩:=rd35 av HB (aa)
    cases cD
    try go_wp2_with (first | ((with_reducible refine gate_dst (N:=11) rfl ?_);refine box_event ?hg (N:=11) ?hd (cs:=#[.int .i64 0,.int .i64 0,.int .i64 0,.int .i64 0,.int .i64 0]) (t:=35) ?hr ?_;(case hd=>rfl);(case hg=>rfl);(case hr=>(go_simp;done));intro ag hg cz hbox hb;replace al:=qB al hb;replace ao:=qB ao hb;replace ax:=qB ax hb;replace ab:=Aside0.mk (Kd.R_below (Kd.R_elderB ab.out ag (Nat.le_of_eq hg.symm)) hb);replace ac:=Aside0.mk (Kd.R_below (Kd.R_elderB ac.out ag (Nat.le_of_eq hg.symm)) hb);replace ae:=qB ae hb;have am:=Aside0.mk hbox;have aE:=qz HB hg;have bw:=qz HB hg;replace HB:=qs HB hb;have aA:=qn af hg;have aQ:=qN af hg;replace af:=qb af hb;have aB:=qn ai hg;have aR:=qN ai hg;replace ai:=qb ai hb;have aC:=qn aj hg;have aS:=qN aj hg;replace aj:=qb aj hb;clear hb hbox hg;have tr:=aQ.out;have um:=aA.out;have ts:=aR.out;have un:=aB.out;have tt:=aS.out;have uo:=aC.out;refine qc5 am fun ms mt mu mv mw of og oh oi oj=>?_;refine qc3 af fun mx my mz ol om on=>?_;have aG:0≤(ah:Int):=od;have aH:ah < (ad.length:Int):=od;obtain ⟨bx,cE,aK,aL,aM,aN,aO⟩:=rq35 av HB ah aG aH;obtain rfl:aF=bx:=(by injection cE);have an:=nq35 av ah aG aH aE;have bG:=nq35 av ah aG aH aE;have bH:=nq35 av ah aG aH aE;have bI:=nq35 av ah aG aH aE;have bJ:=nq35 av ah aG aH aE;have hK:=fun w=>@kB5 ag w (0) (1) (2) (3) (4) (.int .i64 ((rdQ ad (aa)).f0)) (.int .i64 ((rdQ ad (aa)).f1)) (.int .i64 ((rdQ ad (aa)).f2)) (.int .i64 ((rdQ ad (aa)).f3)) (.int .i64 ((rdQ ad (aa)).f4));replace aK:=zc aK (by rw [add_block];exact an) (hK _);replace aL:=zc aL (by rw [add_block];exact an) (hK _);replace aM:=zc aM (by rw [add_block];exact an) (hK _);replace aN:=zc aN (by rw [add_block];exact an) (hK _);replace aO:=zc aO (by rw [add_block];exact an) (hK _);clear an;replace aG:=eq_true aG;replace aH:=eq_true aH;obtain ⟨vL,dn,lx⟩:=Kd.R_slice al.out;subst lx;obtain ⟨cx,ja,vi,vr,bs⟩:=rob al (aa);(try rw [← eB.out] at bs);cases ja;have bK:cx.block≠ag:=Kd.own_blk (Kd.R_ne al.out am.out (by decide));replace bs:=zc bs (by rw [add_block];exact bK) (hK _);clear hK;clear bK))
    have jk:Aside0 (Kd.R Kd.bool 4 (((((cz.setCell ⟨ag,0,none⟩ (.int .i64 ((rdQ ad (aa)).f0))).setCell ⟨ag,1,none⟩ (.int .i64 ((rdQ ad (aa)).f1))).setCell ⟨ag,2,none⟩ (.int .i64 ((rdQ ad (aa)).f2))).setCell ⟨ag,3,none⟩ (.int .i64 ((rdQ ad (aa)).f3))).setCell ⟨ag,4,none⟩ (.int .i64 ((rdQ ad (aa)).f4))) w.heap.size (fun k_=>some k_≠(be:Value).ownBlock∧some k_≠(cl:Value).ownBlock) (.slice (some cx) bf.length dn) bf):=zR al am (by decide) kb5
    have jl:Aside0 (Kd.R Kd.bool 4 (((((cz.setCell ⟨ag,0,none⟩ (.int .i64 ((rdQ ad (aa)).f0))).setCell ⟨ag,1,none⟩ (.int .i64 ((rdQ ad (aa)).f1))).setCell ⟨ag,2,none⟩ (.int .i64 ((rdQ ad (aa)).f2))).setCell ⟨ag,3,none⟩ (.int .i64 ((rdQ ad (aa)).f3))).setCell ⟨ag,4,none⟩ (.int .i64 ((rdQ ad (aa)).f4))) w.heap.size (fun k_=>some k_≠(.slice (some cx) bf.length dn:Value).ownBlock∧some k_≠(cl:Value).ownBlock) be bv):=zR ao am (by decide) kb5
    have jm:Aside0 (Kd.R Kd.bool 4 (((((cz.setCell ⟨ag,0,none⟩ (.int .i64 ((rdQ ad (aa)).f0))).setCell ⟨ag,1,none⟩ (.int .i64 ((rdQ ad (aa)).f1))).setCell ⟨ag,2,none⟩ (.int .i64 ((rdQ ad (aa)).f2))).setCell ⟨ag,3,none⟩ (.int .i64 ((rdQ ad (aa)).f3))).setCell ⟨ag,4,none⟩ (.int .i64 ((rdQ ad (aa)).f4))) w.heap.size (fun k_=>some k_≠(.slice (some cx) bf.length dn:Value).ownBlock∧some k_≠(be:Value).ownBlock) cl bd):=zR ax am (by decide) kb5
    have jn:Aside0 (Kd.R k35 35 (((((cz.setCell ⟨ag,0,none⟩ (.int .i64 ((rdQ ad (aa)).f0))).setCell ⟨ag,1,none⟩ (.int .i64 ((rdQ ad (aa)).f1))).setCell ⟨ag,2,none⟩ (.int .i64 ((rdQ ad (aa)).f2))).setCell ⟨ag,3,none⟩ (.int .i64 ((rdQ ad (aa)).f3))).setCell ⟨ag,4,none⟩ (.int .i64 ((rdQ ad (aa)).f4))) w.heap.size (fun k_=>some k_≠(u382001:Value).ownBlock∧k_≠ag) u382000 ak):=zM ab (fun _ hk=>hk.2) kb5
    have jo:Aside0 (Kd.R k35 35 (((((cz.setCell ⟨ag,0,none⟩ (.int .i64 ((rdQ ad (aa)).f0))).setCell ⟨ag,1,none⟩ (.int .i64 ((rdQ ad (aa)).f1))).setCell ⟨ag,2,none⟩ (.int .i64 ((rdQ ad (aa)).f2))).setCell ⟨ag,3,none⟩ (.int .i64 ((rdQ ad (aa)).f3))).setCell ⟨ag,4,none⟩ (.int .i64 ((rdQ ad (aa)).f4))) w.heap.size (fun k_=>some k_≠(u382000:Value).ownBlock∧k_≠ag) u382001 aI):=zM ac (fun _ hk=>hk.2) kb5
    have jp:Aside0 (Kd.R k37 37 (((((cz.setCell ⟨ag,0,none⟩ (.int .i64 ((rdQ ad (aa)).f0))).setCell ⟨ag,1,none⟩ (.int .i64 ((rdQ ad (aa)).f1))).setCell ⟨ag,2,none⟩ (.int .i64 ((rdQ ad (aa)).f2))).setCell ⟨ag,3,none⟩ (.int .i64 ((rdQ ad (aa)).f3))).setCell ⟨ag,4,none⟩ (.int .i64 ((rdQ ad (aa)).f4))) w.heap.size (fun _=>True) (.slice bk aW.length bl) aW):=zRm ae am (by decide) kb5 (fun _ _=>trivial)
    have jq:Aside0 ((((((cz.setCell ⟨ag,0,none⟩ (.int .i64 ((rdQ ad (aa)).f0))).setCell ⟨ag,1,none⟩ (.int .i64 ((rdQ ad (aa)).f1))).setCell ⟨ag,2,none⟩ (.int .i64 ((rdQ ad (aa)).f2))).setCell ⟨ag,3,none⟩ (.int .i64 ((rdQ ad (aa)).f3))).setCell ⟨ag,4,none⟩ (.int .i64 ((rdQ ad (aa)).f4))).heap[bc]?=some (.cells #[.slice (some aF) ad.length bp,.slice bu ay.length bq,.slice bo aP.length br] 30 (0,0))):=zb af aA.out kb5
    have jr:Aside0 ((((((cz.setCell ⟨ag,0,none⟩ (.int .i64 ((rdQ ad (aa)).f0))).setCell ⟨ag,1,none⟩ (.int .i64 ((rdQ ad (aa)).f1))).setCell ⟨ag,2,none⟩ (.int .i64 ((rdQ ad (aa)).f2))).setCell ⟨ag,3,none⟩ (.int .i64 ((rdQ ad (aa)).f3))).setCell ⟨ag,4,none⟩ (.int .i64 ((rdQ ad (aa)).f4))).heap[aJ]?=some (.cells #[.slice none 0 0,.slice none 0 0,.slice none 0 0] 30 (0,0))):=zb ai aB.out kb5
    have js:Aside0 ((((((cz.setCell ⟨ag,0,none⟩ (.int .i64 ((rdQ ad (aa)).f0))).setCell ⟨ag,1,none⟩ (.int .i64 ((rdQ ad (aa)).f1))).setCell ⟨ag,2,none⟩ (.int .i64 ((rdQ ad (aa)).f2))).setCell ⟨ag,3,none⟩ (.int .i64 ((rdQ ad (aa)).f3))).setCell ⟨ag,4,none⟩ (.int .i64 ((rdQ ad (aa)).f4))).heap[aU]?=some (.cells #[u382000,u382001,.slice bk aW.length bl] 30 (0,0))):=zb aj aC.out kb5
    have jt:Aside0 ((((((cz.setCell ⟨ag,0,none⟩ (.int .i64 ((rdQ ad (aa)).f0))).setCell ⟨ag,1,none⟩ (.int .i64 ((rdQ ad (aa)).f1))).setCell ⟨ag,2,none⟩ (.int .i64 ((rdQ ad (aa)).f2))).setCell ⟨ag,3,none⟩ (.int .i64 ((rdQ ad (aa)).f3))).setCell ⟨ag,4,none⟩ (.int .i64 ((rdQ ad (aa)).f4))).heap[ag]?=some (.cells #[.int .i64 ((rdQ ad (aa)).f0),.int .i64 ((rdQ ad (aa)).f1),.int .i64 ((rdQ ad (aa)).f2),.int .i64 ((rdQ ad (aa)).f3),.int .i64 ((rdQ ad (aa)).f4)] 35 (0,0))):=⟨by refine blk_put (cs:=#[.int .i64 ((rdQ ad (aa)).f0),.int .i64 ((rdQ ad (aa)).f1),.int .i64 ((rdQ ad (aa)).f2),.int .i64 ((rdQ ad (aa)).f3),.int .i64 0]) ?_ 4 _ rfl;refine blk_put (cs:=#[.int .i64 ((rdQ ad (aa)).f0),.int .i64 ((rdQ ad (aa)).f1),.int .i64 ((rdQ ad (aa)).f2),.int .i64 0,.int .i64 0]) ?_ 3 _ rfl;refine blk_put (cs:=#[.int .i64 ((rdQ ad (aa)).f0),.int .i64 ((rdQ ad (aa)).f1),.int .i64 0,.int .i64 0,.int .i64 0]) ?_ 2 _ rfl;refine blk_put (cs:=#[.int .i64 ((rdQ ad (aa)).f0),.int .i64 0,.int .i64 0,.int .i64 0,.int .i64 0]) ?_ 1 _ rfl;refine blk_put (cs:=#[.int .i64 0,.int .i64 0,.int .i64 0,.int .i64 0,.int .i64 0]) ?_ 0 _ rfl;exact am.out⟩
    have dC:Aside0 (Below w.heap.size w (((((cz.setCell ⟨ag,0,none⟩ (.int .i64 ((rdQ ad (aa)).f0))).setCell ⟨ag,1,none⟩ (.int .i64 ((rdQ ad (aa)).f1))).setCell ⟨ag,2,none⟩ (.int .i64 ((rdQ ad (aa)).f2))).setCell ⟨ag,3,none⟩ (.int .i64 ((rdQ ad (aa)).f3))).setCell ⟨ag,4,none⟩ (.int .i64 ((rdQ ad (aa)).f4)))):=⟨by repeat ((with_reducible first | exact HB.out | refine b_st ?_ bw.out))⟩
    (try clear al)
    (try clear ao)
    (try clear ax)
    (try clear ab)
    (try clear ac)
    (try clear ae)
    (try clear af)
    (try clear ai)
    (try clear aj)
    (try clear am)
    (try clear HB)
    generalize (((((cz.setCell ⟨ag,0,none⟩ (.int .i64 ((rdQ ad (aa)).f0))).setCell ⟨ag,1,none⟩ (.int .i64 ((rdQ ad (aa)).f1))).setCell ⟨ag,2,none⟩ (.int .i64 ((rdQ ad (aa)).f2))).setCell ⟨ag,3,none⟩ (.int .i64 ((rdQ ad (aa)).f3))).setCell ⟨ag,4,none⟩ (.int .i64 ((rdQ ad (aa)).f4)))=vB at jk jl jm jn jo jp jq jr js jt dC ⊢
    have al:=jk
    have ao:=jl
    have ax:=jm
    have ab:=jn
    have ac:=jo
    have ae:=jp
    have af:=jq
    have ai:=jr
    have aj:=js
    have am:=jt
    have HB:=dC
    clear jk jl jm jn jo jp jq jr js jt dC
    replace al:=qD al
    replace ao:=qD ao
    replace ax:=qD ax
    replace ab:=qD ab
    replace ac:=qD ac
    replace ae:=qD ae
    replace af:=qr af
    replace ai:=qr ai
    replace aj:=qr aj
    replace am:=qr am
    replace HB:=qd HB
    have jB:0≤(ah:Int):=od
    have jN:ah < (ad.length:Int):=od
    obtain ⟨kR,sD,bR,bS,bT,bU,bV⟩:=at_T35 av.out ah jB jN
    have dR:=bV
    have dQ:=bU
    have dP:=bT
    have dO:=bS
    have dN:=bR
    obtain rfl:aF=kR:=(by injection sD)
    replace bR:=(HB.out.cell (World.block_lt_of_cell? w _ bR)).trans bR
    replace bS:=(HB.out.cell (World.block_lt_of_cell? w _ bS)).trans bS
    replace bT:=(HB.out.cell (World.block_lt_of_cell? w _ bT)).trans bT
    replace bU:=(HB.out.cell (World.block_lt_of_cell? w _ bU)).trans bU
    replace bV:=(HB.out.cell (World.block_lt_of_cell? w _ bV)).trans bV
    replace jB:=eq_true jB
    replace jN:=eq_true jN
    have ju:0≤(ah:Int):=od
    have jG:(ah:Int) < ((ak.length:Int):Int):=od
    obtain ⟨aZ,eN,ic,ik,lT,wl,hI⟩:=Kd.R_form ab.out (by omega)
    (first | cases ic | (injection ic with ea_ en_ ec_;(fail);subst ec_;clear en_))
    have kk:=Aside0.mk ik
    have dh:=Aside0.mk hI
    clear ik lT hI
    obtain ⟨wf,jd,ir,cm,cp⟩:=Kd.R_elem ab.out z35 (ah:Int) ju jG
    obtain rfl:=k35_openM ir
    have gX:World.cell? _ ⟨aZ,(ah:Int).toNat*5,none⟩=some (.int .i64 ((rdQ ak ah).f0)):=cm 0 _ rfl
    have gY:World.cell? _ ⟨aZ,(ah:Int).toNat*5+1,none⟩=some (.int .i64 ((rdQ ak ah).f1)):=cm 1 _ rfl
    have gZ:World.cell? _ ⟨aZ,(ah:Int).toNat*5+2,none⟩=some (.int .i64 ((rdQ ak ah).f2)):=cm 2 _ rfl
    have ha:World.cell? _ ⟨aZ,(ah:Int).toNat*5+3,none⟩=some (.int .i64 ((rdQ ak ah).f3)):=cm 3 _ rfl
    have hc:World.cell? _ ⟨aZ,(ah:Int).toNat*5+4,none⟩=some (.int .i64 ((rdQ ak ah).f4)):=cm 4 _ rfl
    have gj:World.frozen? _ ⟨aZ,(ah:Int).toNat*5,none⟩=false:=cp 0
    have gl:World.frozen? _ ⟨aZ,(ah:Int).toNat*5+1,none⟩=false:=cp 1
    have gm:World.frozen? _ ⟨aZ,(ah:Int).toNat*5+2,none⟩=false:=cp 2
    have gn:World.frozen? _ ⟨aZ,(ah:Int).toNat*5+3,none⟩=false:=cp 3
    have gp:World.frozen? _ ⟨aZ,(ah:Int).toNat*5+4,none⟩=false:=cp 4
    clear jd cm cp ir
    replace ju:=eq_true ju
    replace jG:=eq_true jG
    obtain ⟨wg,fa,it,eX,jg⟩:=Kd.R_elem ab.out z35 (ah:Int) od (by have h_:(ah:Int) < ((ak.length:Int):Int):=od;(exact h_))
    obtain rfl:=k35_openM it
    have ev:=(Kd.R_seg ab.out (ah:Int) od (by have h_:(ah:Int) < ((ak.length:Int):Int):=od;(exact h_)) (seg:=[.int .i64 (wrap64 (((rdQ ad (aa)).f0)+7)),.int .i64 ((rdQ ad ah).f1),.int .i64 ((rdQ ad (aa)).f1),.int .i64 0,.int .i64 0]) (j:=0) fa eX (show 5≤5 from by decide) (x':=(⟨wrap64 (((rdQ ad (aa)).f0)+7),(rdQ ad ah).f1,(rdQ ad (aa)).f1,0,0⟩:S35)) (k35_mkM _ _ _ (⟨wrap64 (((rdQ ad (aa)).f0)+7),(rdQ ad ah).f1,(rdQ ad (aa)).f1,0,0⟩:S35) ) (fun _ hk=>hk)).1
    rw [← kH.out] at ev
    have hT:=Aside0.mk ev
    clear fa eX jg it ev
    refine start_ (n:=17) (S:=fun w'=>w'.cell? ⟨aU,0,none⟩=some (.slice (some ⟨aZ,0,none⟩) ak.length eN)∧w'.cell? ⟨aU,1,none⟩=some (u382001)∧w'.cell? ⟨aU,2,none⟩=some (.slice bk aW.length bl)∧w'.cell? ⟨ag,0,none⟩=some (.int .i64 ((rdQ ad (aa)).f0))∧w'.cell? ⟨ag,1,none⟩=some (.int .i64 ((rdQ ad (aa)).f1))∧w'.cell? ⟨ag,2,none⟩=some (.int .i64 ((rdQ ad (aa)).f2))∧w'.cell? ⟨ag,3,none⟩=some (.int .i64 ((rdQ ad (aa)).f3))∧w'.cell? ⟨ag,4,none⟩=some (.int .i64 ((rdQ ad (aa)).f4))∧w'.cell? ⟨bc,0,none⟩=some (.slice (some aF) ad.length bp)∧w'.cell? ⟨bc,1,none⟩=some (.slice bu ay.length bq)∧w'.cell? ⟨bc,2,none⟩=some (.slice bo aP.length br)∧w'.cell? (aF.add ((ah).toNat*5))=some (.int .i64 ((rdQ ad ah).f0))∧w'.cell? ⟨(aF.add ((ah).toNat*5)).block,(aF.add ((ah).toNat*5)).off+1,none⟩=some (.int .i64 ((rdQ ad ah).f1))∧w'.cell? ⟨(aF.add ((ah).toNat*5)).block,(aF.add ((ah).toNat*5)).off+2,none⟩=some (.int .i64 ((rdQ ad ah).f2))∧w'.cell? ⟨(aF.add ((ah).toNat*5)).block,(aF.add ((ah).toNat*5)).off+3,none⟩=some (.int .i64 ((rdQ ad ah).f3))∧w'.cell? ⟨(aF.add ((ah).toNat*5)).block,(aF.add ((ah).toNat*5)).off+4,none⟩=some (.int .i64 ((rdQ ad ah).f4))) (ds:=[16]) (fl 17 0) (by kernel_rfl) rfl rfl ⟨(bk_c aj.out 0).trans rfl,(bk_c aj.out 1).trans rfl,(bk_c aj.out 2).trans rfl,(bk_c am.out 0).trans rfl,(bk_c am.out 1).trans rfl,(bk_c am.out 2).trans rfl,(bk_c am.out 3).trans rfl,(bk_c am.out 4).trans rfl,(bk_c af.out 0).trans rfl,(bk_c af.out 1).trans rfl,(bk_c af.out 2).trans rfl,((HB.out.cell (World.block_lt_of_cell? w _ dN)).trans dN),((HB.out.cell (World.block_lt_of_cell? w _ dO)).trans dO),((HB.out.cell (World.block_lt_of_cell? w _ dP)).trans dP),((HB.out.cell (World.block_lt_of_cell? w _ dQ)).trans dQ),((HB.out.cell (World.block_lt_of_cell? w _ dR)).trans dR)⟩ (fun hHeld=>?_);refine with_tabW rfFuse.tab30 rfFuse.bits30 (fun HT_ HW_=>?_)
    generalize vB.drew=pH at al ao ax ab ac ae af ai aj am HB dh hT gj gl gm gn gp gX gY gZ ha hc bR bS bT bU bV hHeld ⊢
    refine pA 17 0 144 1 ?_ HT_ (by kernel_rfl) rfl rfl (fun _ _ _ h=>h) (by rfl) ?_ ?_ ?_ ?_
    rotate_left
    intro w'
    go_simp
    with_reducible rfl
    rotate_left
    simp only [Act.put,s1,s2,s3,i64_w,i32_w]
    rfl
    refine pA 17 2 146 5 ?_ HT_ (by kernel_rfl) rfl rfl (fun _ _ _ h=>h) (by rfl) ?_ ?_ ?_ ?_
    rotate_left
    intro w'
    go_simp
    with_reducible rfl
    rotate_left
    simp only [Act.put,s1,s2,s3,i64_w,i32_w]
    rfl
    refine pA 17 3 147 13 ?_ HT_ (by kernel_rfl) rfl rfl (fun _ _ _ h=>h) (by rfl) ?_ ?_ ?_ ?_
    rotate_left
    intro w'
    go_simp
    with_reducible rfl
    rotate_left
    simp only [Act.put,s1,s2,s3,i64_w,i32_w]
    rfl
    refine pA 17 6 150 77 ?_ HT_ (by kernel_rfl) rfl rfl (fun _ _ _ h=>h) (by rfl) ?_ ?_ ?_ ?_
    rotate_left
    intro w'
    go_simp
    with_reducible rfl
    rotate_left
    simp only [Act.put,s1,s2,s3,i64_w,i32_w]
    rfl
    refine pA 17 8 152 333 ?_ HT_ (by kernel_rfl) rfl rfl (fun _ _ _ h=>h) (by rfl) ?_ ?_ ?_ ?_
    rotate_left
    intro w'
    go_simp
    with_reducible rfl
    rotate_left
    simp only [Act.put,s1,s2,s3,i64_w,i32_w]
    rfl
    refine pA 17 12 156 4429 ?_ HT_ (by kernel_rfl) rfl rfl (fun _ _ _ h=>h) (by rfl) ?_ ?_ ?_ ?_
    rotate_left
    intro w'
    go_simp
    with_reducible rfl
    rotate_left
    simp only [Act.put,s1,s2,s3,i64_w,i32_w]
    rfl
    refine pT 17 1 145 4431 ?_ HT_ HW_ (by kernel_rfl) rfl rfl (fun _ _ _ h=>h) (by rfl) ?_ hHeld ?_ ?_ ?_
    rotate_left
    rintro w' ⟨_,_,_,_,_,_,_,_,_,_,_,_,_,_,_,_⟩
    go_simp
    with_reducible rfl
    rotate_left
    simp only [Act.put,s1,s2,s3,i64_w,i32_w]
    rfl
    refine pT 17 4 148 4447 ?_ HT_ HW_ (by kernel_rfl) rfl rfl (fun _ _ _ h=>h) (by rfl) ?_ hHeld ?_ ?_ ?_
    rotate_left
    rintro w' ⟨_,_,_,_,_,_,_,_,_,_,_,_,_,_,_,_⟩
    go_simp
    with_reducible rfl
    rotate_left
    simp only [Act.put,s1,s2,s3,i64_w,i32_w]
    rfl
    refine pA 17 5 149 4479 ?_ HT_ (by kernel_rfl) rfl rfl (fun _ _ _ h=>h) (by rfl) ?_ ?_ ?_ ?_
    rotate_left
    intro w'
    go_simp
    with_reducible rfl
    rotate_left
    simp only [Act.put,s1,s2,s3,i64_w,i32_w]
    rfl
    refine pT 17 7 151 4607 ?_ HT_ HW_ (by kernel_rfl) rfl rfl (fun _ _ _ h=>h) (by rfl) ?_ hHeld ?_ ?_ ?_
    rotate_left
    rintro w' ⟨_,_,_,_,_,_,_,_,_,_,_,_,_,_,_,_⟩
    go_simp
    with_reducible rfl
    rotate_left
    simp only [Act.put,s1,s2,s3,i64_w,i32_w]
    rfl
    refine pA 17 9 153 5119 ?_ HT_ (by kernel_rfl) rfl rfl (fun _ _ _ h=>h) (by rfl) ?_ ?_ ?_ ?_
    rotate_left
    intro w'
    go_simp
    with_reducible rfl
    rotate_left
    simp only [Act.put,s1,s2,s3,i64_w,i32_w]
    rfl
    refine pA 17 10 154 6143 ?_ HT_ (by kernel_rfl) rfl rfl (fun _ _ _ h=>h) (by rfl) ?_ ?_ ?_ ?_
    rotate_left
    intro w'
    go_simp
    with_reducible rfl
    rotate_left
    simp only [Act.put,s1,s2,s3,i64_w,i32_w]
    rfl
    refine pT 17 11 155 8191 ?_ HT_ HW_ (by kernel_rfl) rfl rfl (fun _ _ _ h=>h) (by rfl) ?_ hHeld ?_ ?_ ?_
    rotate_left
    rintro w' ⟨_,_,_,_,_,_,_,_,_,_,_,_,_,_,_,_⟩
    go_simp
    with_reducible rfl
    rotate_left
    simp only [Act.put,s1,s2,s3,i64_w,i32_w]
    rfl
    refine pT 17 13 157 16383 ?_ HT_ HW_ (by kernel_rfl) rfl rfl (fun _ _ _ h=>h) (by rfl) ?_ hHeld ?_ ?_ ?_
    rotate_left
    rintro w' ⟨_,_,_,_,_,_,_,_,_,_,_,_,_,_,_,_⟩
    go_simp
    with_reducible rfl
    rotate_left
    simp only [Act.put,s1,s2,s3,i64_w,i32_w]
    rfl
    refine pA 17 14 158 32767 ?_ HT_ (by kernel_rfl) rfl rfl (fun _ _ _ h=>h) (by rfl) ?_ ?_ ?_ ?_
    rotate_left
    intro w'
    go_simp
    with_reducible rfl
    rotate_left
    simp only [Act.put,s1,s2,s3,i64_w,i32_w]
    rfl
    refine pA 17 15 159 65535 ?_ HT_ (by kernel_rfl) rfl rfl (fun _ _ _ h=>h) (by rfl) ?_ ?_ ?_ ?_
    rotate_left
    intro w'
    go_simp
    with_reducible rfl
    rotate_left
    simp only [Act.put,s1,s2,s3,i64_w,i32_w]
    rfl
    refine pL 17 16 131071 (none) HT_ (by kernel_rfl) rfl rfl (by decide) (fun K hK=>?_)
    refine skip_ (w1:=?_) (by rfl) rfl ?_ ?_
    rotate_left
    ·go_simp
     rfl
    refine hK.out _ _ ?_
    clear hK K
    refine done_ (done_of HT_.out (by kernel_rfl)) ?_
    obtain ⟨hB,hW⟩:∃ w_,w_=(((((pH.setCell ⟨aZ,(ah:Int).toNat*5,none⟩ (.int .i64 (wrap64 (((rdQ ad (aa)).f0)+7)))).setCell ⟨aZ,(ah:Int).toNat*5+1,none⟩ (.int .i64 ((rdQ ad ah).f1))).setCell ⟨aZ,(ah:Int).toNat*5+2,none⟩ (.int .i64 ((rdQ ad (aa)).f1))).setCell ⟨aZ,(ah:Int).toNat*5+3,none⟩ (.int .i64 0)).setCell ⟨aZ,(ah:Int).toNat*5+4,none⟩ (.int .i64 0)):=⟨_,rfl⟩
    rw [← hW]
    have hK:KB aZ pH hB:=by rw [hW];exact kb5
    replace al:=zR al dh (by decide) hK
    replace ao:=zR ao dh (by decide) hK
    replace ax:=zR ax dh (by decide) hK
    replace ac:=zM ac (fun _ hk=>fun e_=>hk.1 (by rw [e_];rfl)) hK
    replace ae:=zRm ae dh (by decide) hK (fun _ _=>trivial)
    replace af:=zb af (zn ab af (by decide)) hK
    replace ai:=zb ai (zn ab ai (by decide)) hK
    replace aj:=zb aj (zn ab aj (by decide)) hK
    replace am:=zb am (za ab (fun _ hk=>hk.2)) hK
    replace ab:Aside0 (Kd.R k35 35 hB w.heap.size (fun k_=>some k_≠(u382001:Value).ownBlock∧k_≠ag) (.slice (some ⟨aZ,0,none⟩) ak.length eN) pQ):=by rw [hW];exact hT
    replace HB:=zB HB kk hK
    clear hW hK
    have jv:0≤((aa):Int):=od
    have jH:((aa):Int) < ((bd.length:Int):Int):=od
    obtain ⟨cF,dm,ie,il,lU,wm,ku⟩:=Kd.R_form ax.out (by omega)
    (first | cases ie | (injection ie with ea_ en_ ec_;(fail);subst ec_;clear en_))
    have kl:=Aside0.mk il
    clear il lU ku
    obtain ⟨rs,qP⟩:=Kd.R_celln false ax.out ((aa):Int) jv jH
    replace jv:=eq_true jv
    replace jH:=eq_true jH
    obtain ⟨vb,ve⟩:=Kd.R_celln false ax.out ((aa):Int) od od
    have ew:=Kd.R_putg ax.out ((aa):Int) false
    try go_wp2_with (((with_reducible refine gate_store (t:=4) (p:=163) rfl ?_);refine store_event (t:=4) (p:=163) (v:=?kc) (w1:=(hB.setCell ⟨cF,((aa):Int).toNat,none⟩ (.bool false))) ?hg ?ho ?hn ?hr ?_;(case ho=>rfl);(case hg=>rfl);(case hn=>rfl);(case hr=>(go_simp;done));intro jV hw;have hg:hB.grownBy jV (some cF):=(by rw [hw];exact ew.2);have hp_:Kd.R Kd.bool 4 jV w.heap.size (fun k_=>some k_≠(.slice (some cx) bf.length dn:Value).ownBlock∧some k_≠(be:Value).ownBlock) (.slice (some ⟨cF,0,none⟩) bd.length dm) pR:=(by rw [hw,kI.out];exact ew.1);clear ew;replace al:=Aside0.mk (Kd.R_after (v:=(.slice (some ⟨cF,0,none⟩) bd.length dm)) (v1:=(.slice (some ⟨cF,0,none⟩) bd.length dm)) (ok:=(fun k_=>some k_≠(be:Value).ownBlock)) al.out hg (.inl rfl));replace ao:=Aside0.mk (Kd.R_after (v:=(.slice (some ⟨cF,0,none⟩) bd.length dm)) (v1:=(.slice (some ⟨cF,0,none⟩) bd.length dm)) (ok:=(fun k_=>some k_≠(.slice (some cx) bf.length dn:Value).ownBlock)) ao.out hg (.inl rfl));replace ab:=qo ab ax (by decide) hg;replace ac:=qo ac ax (by decide) hg;replace ae:=qo ae ax (by decide) hg;replace af:=qg af hg ax (by decide);replace ai:=qg ai hg ax (by decide);replace aj:=qg aj hg ax (by decide);replace am:=qg am hg ax (by decide);replace ax:=Aside0.mk hp_;replace HB:=Aside0.mk ((by rw [hw];exact b_st (HB.out) kl.out:Below w.heap.size w jV));clear hg hw hp_))
    go_roundg k4
    case measure=>have:=bz.out;have:=ct.out;have:=cC.out;have:=cL.out;omega
    case rel=>exact ⟨(pR),(wrap64 ((aa)+1)),(pQ),(aI),(.slice (some ⟨aZ,0,none⟩) ak.length eN),(u382001),rfl,H',⟨by have:=bz.out;have:=ct.out;have:=cC.out;have:=cL.out;omega⟩,al,ao,ax,⟨by exact Kd.R_mono ab.out (fun _ hk=>hk.1)⟩,⟨by exact Kd.R_mono ac.out (fun _ hk=>hk.1)⟩,ae,af,ai,aj,HB⟩
   rw [if_neg eI] at H
   obtain ⟨iL,iM⟩:=cBf eI
   by_cases eJ:((rdQ ad (aa)).f0)=8
   ·rw [if_pos eJ] at H
    obtain ⟨iN,iO⟩:=cBt eJ
    clear eJ
    replace H:=iNd H
    obtain ⟨sp,H⟩:=H
    obtain ⟨kW,dy⟩:∃ b_:Bool,b_=(rdOf false bf (aa)):=⟨_,rfl⟩
    rw [← dy] at H
    have eC:=Aside0.mk dy
    clear dy
    by_cases fL:(kW=true)
    ·subst fL
     replace H:=iP H
     have H':=Aside0.mk H
     clear H
     have tu:=ar.out
     have up:=au.out
     have tv:=ap.out
     have uq:=aw.out
     refine qc3 af fun mA mB mC oo op oq=>?_
     obtain ⟨aF,cD,fD,fE,bM,bN,bO,bP,bQ⟩:=rd35 av HB (aa)
     cases cD
     go_wp2_with (first | ((with_reducible refine gate_dst (N:=11) rfl ?_);refine box_event ?hg (N:=11) ?hd (cs:=#[.int .i64 0,.int .i64 0,.int .i64 0,.int .i64 0,.int .i64 0]) (t:=35) ?hr ?_;(case hd=>rfl);(case hg=>rfl);(case hr=>(go_simp;done));intro ag hg xO hbox hb;replace al:=qB al hb;replace ao:=qB ao hb;replace ax:=qB ax hb;replace ab:=Aside0.mk (Kd.R_below (Kd.R_elderB ab.out ag (Nat.le_of_eq hg.symm)) hb);replace ac:=Aside0.mk (Kd.R_below (Kd.R_elderB ac.out ag (Nat.le_of_eq hg.symm)) hb);replace ae:=qB ae hb;have am:=Aside0.mk hbox;have aE:=qz HB hg;have bw:=qz HB hg;replace HB:=qs HB hb;have aA:=qn af hg;have aQ:=qN af hg;replace af:=qb af hb;have aB:=qn ai hg;have aR:=qN ai hg;replace ai:=qb ai hb;have aC:=qn aj hg;have aS:=qN aj hg;replace aj:=qb aj hb;clear hb hbox hg;have tw:=aQ.out;have ur:=aA.out;have tx:=aR.out;have us:=aB.out;have ty:=aS.out;have ut:=aC.out;refine qc5 am fun mD mE mF mG mH os ot ou ov ow=>?_;refine qc3 af fun mI mJ mK ox oy oz=>?_;have aG:0≤(ah:Int):=od;have aH:ah < (ad.length:Int):=od;obtain ⟨bx,cE,aK,aL,aM,aN,aO⟩:=rq35 av HB ah aG aH;obtain rfl:aF=bx:=(by injection cE);have an:=nq35 av ah aG aH aE;have bG:=nq35 av ah aG aH aE;have bH:=nq35 av ah aG aH aE;have bI:=nq35 av ah aG aH aE;have bJ:=nq35 av ah aG aH aE;have hK:=fun w=>@kB5 ag w (0) (1) (2) (3) (4) (.int .i64 ((rdQ ad (aa)).f0)) (.int .i64 ((rdQ ad (aa)).f1)) (.int .i64 ((rdQ ad (aa)).f2)) (.int .i64 ((rdQ ad (aa)).f3)) (.int .i64 ((rdQ ad (aa)).f4));replace aK:=zc aK (by rw [add_block];exact an) (hK _);replace aL:=zc aL (by rw [add_block];exact an) (hK _);replace aM:=zc aM (by rw [add_block];exact an) (hK _);replace aN:=zc aN (by rw [add_block];exact an) (hK _);replace aO:=zc aO (by rw [add_block];exact an) (hK _);clear an;replace aG:=eq_true aG;replace aH:=eq_true aH;obtain ⟨vM,wt,ly⟩:=Kd.R_slice al.out;subst ly;obtain ⟨cy,jb,vj,vs,bt⟩:=rob al (aa);(try rw [← eC.out] at bt);cases jb;have bL:cy.block≠ag:=Kd.own_blk (Kd.R_ne al.out am.out (by decide));replace bt:=zc bt (by rw [add_block];exact bL) (hK _);clear hK;clear bL))
     go_roundg k4
     case measure=>have:=bz.out;have:=ct.out;have:=cC.out;have:=cL.out;omega
     case rel=>exact ⟨(bd),(aa),(ak),(aI),(u382000),(u382001),rfl,H',⟨by have:=bz.out;have:=ct.out;have:=cC.out;have:=cL.out;omega⟩,zR al am (by decide) kb5,zR ao am (by decide) kb5,zR ax am (by decide) kb5,zMm ab (fun _ hk=>hk.2) kb5 (fun _ hk=>hk.1),zMm ac (fun _ hk=>hk.2) kb5 (fun _ hk=>hk.1),zRm ae am (by decide) kb5 (fun _ _=>trivial),zb af aA.out kb5,zb ai aB.out kb5,zb aj aC.out kb5,⟨by repeat ((with_reducible first | exact HB.out | refine b_st ?_ bw.out))⟩⟩
    replace fL:=Bool.eq_false_iff.mpr fL
    subst fL
    replace H:=iF H
    replace H:=iNd H
    obtain ⟨sq,H⟩:=H
    obtain ⟨pS,fz⟩:∃ y_:List (S35),y_=(ak.set (ah:Int).toNat (⟨wrap64 (((rdQ ad (aa)).f0)+7),(rdQ ad ah).f1,(rdQ ad (aa)).f1,0,0⟩:S35)):=⟨_,rfl⟩
    rw [← fz] at H
    have kJ:=Aside0.mk fz
    clear fz
    replace H:=iNd H
    obtain ⟨sr,H⟩:=H
    obtain ⟨pU,fA⟩:∃ y_:List Bool,y_=(bd.set ((aa):Int).toNat false):=⟨_,rfl⟩
    rw [← fA] at H
    have kK:=Aside0.mk fA
    clear fA
    have H':=Aside0.mk H
    clear H
    have tz:=ar.out
    have uu:=au.out
    have tA:=ap.out
    have uv:=aw.out
    refine qc3 af fun mL mM mN oA oB oC=>?_
    obtain ⟨aF,cD,fD,fE,bM,bN,bO,bP,bQ⟩:=rd35 av HB (aa)
    cases cD
    try go_wp2_with (first | ((with_reducible refine gate_dst (N:=11) rfl ?_);refine box_event ?hg (N:=11) ?hd (cs:=#[.int .i64 0,.int .i64 0,.int .i64 0,.int .i64 0,.int .i64 0]) (t:=35) ?hr ?_;(case hd=>rfl);(case hg=>rfl);(case hr=>(go_simp;done));intro ag hg cA hbox hb;replace al:=qB al hb;replace ao:=qB ao hb;replace ax:=qB ax hb;replace ab:=Aside0.mk (Kd.R_below (Kd.R_elderB ab.out ag (Nat.le_of_eq hg.symm)) hb);replace ac:=Aside0.mk (Kd.R_below (Kd.R_elderB ac.out ag (Nat.le_of_eq hg.symm)) hb);replace ae:=qB ae hb;have am:=Aside0.mk hbox;have aE:=qz HB hg;have bw:=qz HB hg;replace HB:=qs HB hb;have aA:=qn af hg;have aQ:=qN af hg;replace af:=qb af hb;have aB:=qn ai hg;have aR:=qN ai hg;replace ai:=qb ai hb;have aC:=qn aj hg;have aS:=qN aj hg;replace aj:=qb aj hb;clear hb hbox hg;have tB:=aQ.out;have uw:=aA.out;have tC:=aR.out;have ux:=aB.out;have tD:=aS.out;have uy:=aC.out;refine qc5 am fun mO mP mQ mR mS oD oE oF oG oH=>?_;refine qc3 af fun mT mU mV oI oJ oK=>?_;have aG:0≤(ah:Int):=od;have aH:ah < (ad.length:Int):=od;obtain ⟨bx,cE,aK,aL,aM,aN,aO⟩:=rq35 av HB ah aG aH;obtain rfl:aF=bx:=(by injection cE);have an:=nq35 av ah aG aH aE;have bG:=nq35 av ah aG aH aE;have bH:=nq35 av ah aG aH aE;have bI:=nq35 av ah aG aH aE;have bJ:=nq35 av ah aG aH aE;have hK:=fun w=>@kB5 ag w (0) (1) (2) (3) (4) (.int .i64 ((rdQ ad (aa)).f0)) (.int .i64 ((rdQ ad (aa)).f1)) (.int .i64 ((rdQ ad (aa)).f2)) (.int .i64 ((rdQ ad (aa)).f3)) (.int .i64 ((rdQ ad (aa)).f4));replace aK:=zc aK (by rw [add_block];exact an) (hK _);replace aL:=zc aL (by rw [add_block];exact an) (hK _);replace aM:=zc aM (by rw [add_block];exact an) (hK _);replace aN:=zc aN (by rw [add_block];exact an) (hK _);replace aO:=zc aO (by rw [add_block];exact an) (hK _);clear an;replace aG:=eq_true aG;replace aH:=eq_true aH;obtain ⟨vN,dq,lz⟩:=Kd.R_slice al.out;subst lz;obtain ⟨cy,jb,vj,vs,bt⟩:=rob al (aa);(try rw [← eC.out] at bt);cases jb;have bL:cy.block≠ag:=Kd.own_blk (Kd.R_ne al.out am.out (by decide));replace bt:=zc bt (by rw [add_block];exact bL) (hK _);clear hK;clear bL))
    have jk:Aside0 (Kd.R Kd.bool 4 (((((cA.setCell ⟨ag,0,none⟩ (.int .i64 ((rdQ ad (aa)).f0))).setCell ⟨ag,1,none⟩ (.int .i64 ((rdQ ad (aa)).f1))).setCell ⟨ag,2,none⟩ (.int .i64 ((rdQ ad (aa)).f2))).setCell ⟨ag,3,none⟩ (.int .i64 ((rdQ ad (aa)).f3))).setCell ⟨ag,4,none⟩ (.int .i64 ((rdQ ad (aa)).f4))) w.heap.size (fun k_=>some k_≠(be:Value).ownBlock∧some k_≠(cl:Value).ownBlock) (.slice (some cy) bf.length dq) bf):=zR al am (by decide) kb5
    have jl:Aside0 (Kd.R Kd.bool 4 (((((cA.setCell ⟨ag,0,none⟩ (.int .i64 ((rdQ ad (aa)).f0))).setCell ⟨ag,1,none⟩ (.int .i64 ((rdQ ad (aa)).f1))).setCell ⟨ag,2,none⟩ (.int .i64 ((rdQ ad (aa)).f2))).setCell ⟨ag,3,none⟩ (.int .i64 ((rdQ ad (aa)).f3))).setCell ⟨ag,4,none⟩ (.int .i64 ((rdQ ad (aa)).f4))) w.heap.size (fun k_=>some k_≠(.slice (some cy) bf.length dq:Value).ownBlock∧some k_≠(cl:Value).ownBlock) be bv):=zR ao am (by decide) kb5
    have jm:Aside0 (Kd.R Kd.bool 4 (((((cA.setCell ⟨ag,0,none⟩ (.int .i64 ((rdQ ad (aa)).f0))).setCell ⟨ag,1,none⟩ (.int .i64 ((rdQ ad (aa)).f1))).setCell ⟨ag,2,none⟩ (.int .i64 ((rdQ ad (aa)).f2))).setCell ⟨ag,3,none⟩ (.int .i64 ((rdQ ad (aa)).f3))).setCell ⟨ag,4,none⟩ (.int .i64 ((rdQ ad (aa)).f4))) w.heap.size (fun k_=>some k_≠(.slice (some cy) bf.length dq:Value).ownBlock∧some k_≠(be:Value).ownBlock) cl bd):=zR ax am (by decide) kb5
    have jn:Aside0 (Kd.R k35 35 (((((cA.setCell ⟨ag,0,none⟩ (.int .i64 ((rdQ ad (aa)).f0))).setCell ⟨ag,1,none⟩ (.int .i64 ((rdQ ad (aa)).f1))).setCell ⟨ag,2,none⟩ (.int .i64 ((rdQ ad (aa)).f2))).setCell ⟨ag,3,none⟩ (.int .i64 ((rdQ ad (aa)).f3))).setCell ⟨ag,4,none⟩ (.int .i64 ((rdQ ad (aa)).f4))) w.heap.size (fun k_=>some k_≠(u382001:Value).ownBlock∧k_≠ag) u382000 ak):=zM ab (fun _ hk=>hk.2) kb5
    have jo:Aside0 (Kd.R k35 35 (((((cA.setCell ⟨ag,0,none⟩ (.int .i64 ((rdQ ad (aa)).f0))).setCell ⟨ag,1,none⟩ (.int .i64 ((rdQ ad (aa)).f1))).setCell ⟨ag,2,none⟩ (.int .i64 ((rdQ ad (aa)).f2))).setCell ⟨ag,3,none⟩ (.int .i64 ((rdQ ad (aa)).f3))).setCell ⟨ag,4,none⟩ (.int .i64 ((rdQ ad (aa)).f4))) w.heap.size (fun k_=>some k_≠(u382000:Value).ownBlock∧k_≠ag) u382001 aI):=zM ac (fun _ hk=>hk.2) kb5
    have jp:Aside0 (Kd.R k37 37 (((((cA.setCell ⟨ag,0,none⟩ (.int .i64 ((rdQ ad (aa)).f0))).setCell ⟨ag,1,none⟩ (.int .i64 ((rdQ ad (aa)).f1))).setCell ⟨ag,2,none⟩ (.int .i64 ((rdQ ad (aa)).f2))).setCell ⟨ag,3,none⟩ (.int .i64 ((rdQ ad (aa)).f3))).setCell ⟨ag,4,none⟩ (.int .i64 ((rdQ ad (aa)).f4))) w.heap.size (fun _=>True) (.slice bk aW.length bl) aW):=zRm ae am (by decide) kb5 (fun _ _=>trivial)
    have jq:Aside0 ((((((cA.setCell ⟨ag,0,none⟩ (.int .i64 ((rdQ ad (aa)).f0))).setCell ⟨ag,1,none⟩ (.int .i64 ((rdQ ad (aa)).f1))).setCell ⟨ag,2,none⟩ (.int .i64 ((rdQ ad (aa)).f2))).setCell ⟨ag,3,none⟩ (.int .i64 ((rdQ ad (aa)).f3))).setCell ⟨ag,4,none⟩ (.int .i64 ((rdQ ad (aa)).f4))).heap[bc]?=some (.cells #[.slice (some aF) ad.length bp,.slice bu ay.length bq,.slice bo aP.length br] 30 (0,0))):=zb af aA.out kb5
    have jr:Aside0 ((((((cA.setCell ⟨ag,0,none⟩ (.int .i64 ((rdQ ad (aa)).f0))).setCell ⟨ag,1,none⟩ (.int .i64 ((rdQ ad (aa)).f1))).setCell ⟨ag,2,none⟩ (.int .i64 ((rdQ ad (aa)).f2))).setCell ⟨ag,3,none⟩ (.int .i64 ((rdQ ad (aa)).f3))).setCell ⟨ag,4,none⟩ (.int .i64 ((rdQ ad (aa)).f4))).heap[aJ]?=some (.cells #[.slice none 0 0,.slice none 0 0,.slice none 0 0] 30 (0,0))):=zb ai aB.out kb5
    have js:Aside0 ((((((cA.setCell ⟨ag,0,none⟩ (.int .i64 ((rdQ ad (aa)).f0))).setCell ⟨ag,1,none⟩ (.int .i64 ((rdQ ad (aa)).f1))).setCell ⟨ag,2,none⟩ (.int .i64 ((rdQ ad (aa)).f2))).setCell ⟨ag,3,none⟩ (.int .i64 ((rdQ ad (aa)).f3))).setCell ⟨ag,4,none⟩ (.int .i64 ((rdQ ad (aa)).f4))).heap[aU]?=some (.cells #[u382000,u382001,.slice bk aW.length bl] 30 (0,0))):=zb aj aC.out kb5
    have jt:Aside0 ((((((cA.setCell ⟨ag,0,none⟩ (.int .i64 ((rdQ ad (aa)).f0))).setCell ⟨ag,1,none⟩ (.int .i64 ((rdQ ad (aa)).f1))).setCell ⟨ag,2,none⟩ (.int .i64 ((rdQ ad (aa)).f2))).setCell ⟨ag,3,none⟩ (.int .i64 ((rdQ ad (aa)).f3))).setCell ⟨ag,4,none⟩ (.int .i64 ((rdQ ad (aa)).f4))).heap[ag]?=some (.cells #[.int .i64 ((rdQ ad (aa)).f0),.int .i64 ((rdQ ad (aa)).f1),.int .i64 ((rdQ ad (aa)).f2),.int .i64 ((rdQ ad (aa)).f3),.int .i64 ((rdQ ad (aa)).f4)] 35 (0,0))):=⟨by refine blk_put (cs:=#[.int .i64 ((rdQ ad (aa)).f0),.int .i64 ((rdQ ad (aa)).f1),.int .i64 ((rdQ ad (aa)).f2),.int .i64 ((rdQ ad (aa)).f3),.int .i64 0]) ?_ 4 _ rfl;refine blk_put (cs:=#[.int .i64 ((rdQ ad (aa)).f0),.int .i64 ((rdQ ad (aa)).f1),.int .i64 ((rdQ ad (aa)).f2),.int .i64 0,.int .i64 0]) ?_ 3 _ rfl;refine blk_put (cs:=#[.int .i64 ((rdQ ad (aa)).f0),.int .i64 ((rdQ ad (aa)).f1),.int .i64 0,.int .i64 0,.int .i64 0]) ?_ 2 _ rfl;refine blk_put (cs:=#[.int .i64 ((rdQ ad (aa)).f0),.int .i64 0,.int .i64 0,.int .i64 0,.int .i64 0]) ?_ 1 _ rfl;refine blk_put (cs:=#[.int .i64 0,.int .i64 0,.int .i64 0,.int .i64 0,.int .i64 0]) ?_ 0 _ rfl;exact am.out⟩
    have dC:Aside0 (Below w.heap.size w (((((cA.setCell ⟨ag,0,none⟩ (.int .i64 ((rdQ ad (aa)).f0))).setCell ⟨ag,1,none⟩ (.int .i64 ((rdQ ad (aa)).f1))).setCell ⟨ag,2,none⟩ (.int .i64 ((rdQ ad (aa)).f2))).setCell ⟨ag,3,none⟩ (.int .i64 ((rdQ ad (aa)).f3))).setCell ⟨ag,4,none⟩ (.int .i64 ((rdQ ad (aa)).f4)))):=⟨by repeat ((with_reducible first | exact HB.out | refine b_st ?_ bw.out))⟩
    (try clear al)
    (try clear ao)
    (try clear ax)
    (try clear ab)
    (try clear ac)
    (try clear ae)
    (try clear af)
    (try clear ai)
    (try clear aj)
    (try clear am)
    (try clear HB)
    generalize (((((cA.setCell ⟨ag,0,none⟩ (.int .i64 ((rdQ ad (aa)).f0))).setCell ⟨ag,1,none⟩ (.int .i64 ((rdQ ad (aa)).f1))).setCell ⟨ag,2,none⟩ (.int .i64 ((rdQ ad (aa)).f2))).setCell ⟨ag,3,none⟩ (.int .i64 ((rdQ ad (aa)).f3))).setCell ⟨ag,4,none⟩ (.int .i64 ((rdQ ad (aa)).f4)))=vC at jk jl jm jn jo jp jq jr js jt dC ⊢
    have al:=jk
    have ao:=jl
    have ax:=jm
    have ab:=jn
    have ac:=jo
    have ae:=jp
    have af:=jq
    have ai:=jr
    have aj:=js
    have am:=jt
    have HB:=dC
    clear jk jl jm jn jo jp jq jr js jt dC
    replace al:=qD al
    replace ao:=qD ao
    replace ax:=qD ax
    replace ab:=qD ab
    replace ac:=qD ac
    replace ae:=qD ae
    replace af:=qr af
    replace ai:=qr ai
    replace aj:=qr aj
    replace am:=qr am
    replace HB:=qd HB
    have jC:0≤(ah:Int):=od
    have jO:ah < (ad.length:Int):=od
    obtain ⟨kS,sE,bW,bX,bY,bZ,ca⟩:=at_T35 av.out ah jC jO
    have dW:=ca
    have dV:=bZ
    have dU:=bY
    have dT:=bX
    have dS:=bW
    obtain rfl:aF=kS:=(by injection sE)
    replace bW:=(HB.out.cell (World.block_lt_of_cell? w _ bW)).trans bW
    replace bX:=(HB.out.cell (World.block_lt_of_cell? w _ bX)).trans bX
    replace bY:=(HB.out.cell (World.block_lt_of_cell? w _ bY)).trans bY
    replace bZ:=(HB.out.cell (World.block_lt_of_cell? w _ bZ)).trans bZ
    replace ca:=(HB.out.cell (World.block_lt_of_cell? w _ ca)).trans ca
    replace jC:=eq_true jC
    replace jO:=eq_true jO
    have jw:0≤(ah:Int):=od
    have jI:(ah:Int) < ((ak.length:Int):Int):=od
    obtain ⟨ba,eP,ig,im,lV,wn,hJ⟩:=Kd.R_form ab.out (by omega)
    (first | cases ig | (injection ig with ea_ en_ ec_;(fail);subst ec_;clear en_))
    have km:=Aside0.mk im
    have di:=Aside0.mk hJ
    clear im lV hJ
    obtain ⟨wh,je,iu,cn,cq⟩:=Kd.R_elem ab.out z35 (ah:Int) jw jI
    obtain rfl:=k35_openM iu
    have he:World.cell? _ ⟨ba,(ah:Int).toNat*5,none⟩=some (.int .i64 ((rdQ ak ah).f0)):=cn 0 _ rfl
    have hf:World.cell? _ ⟨ba,(ah:Int).toNat*5+1,none⟩=some (.int .i64 ((rdQ ak ah).f1)):=cn 1 _ rfl
    have hh:World.cell? _ ⟨ba,(ah:Int).toNat*5+2,none⟩=some (.int .i64 ((rdQ ak ah).f2)):=cn 2 _ rfl
    have hi:World.cell? _ ⟨ba,(ah:Int).toNat*5+3,none⟩=some (.int .i64 ((rdQ ak ah).f3)):=cn 3 _ rfl
    have hj:World.cell? _ ⟨ba,(ah:Int).toNat*5+4,none⟩=some (.int .i64 ((rdQ ak ah).f4)):=cn 4 _ rfl
    have gq:World.frozen? _ ⟨ba,(ah:Int).toNat*5,none⟩=false:=cq 0
    have gr:World.frozen? _ ⟨ba,(ah:Int).toNat*5+1,none⟩=false:=cq 1
    have gs:World.frozen? _ ⟨ba,(ah:Int).toNat*5+2,none⟩=false:=cq 2
    have gt:World.frozen? _ ⟨ba,(ah:Int).toNat*5+3,none⟩=false:=cq 3
    have gu:World.frozen? _ ⟨ba,(ah:Int).toNat*5+4,none⟩=false:=cq 4
    clear je cn cq iu
    replace jw:=eq_true jw
    replace jI:=eq_true jI
    obtain ⟨wi,fb,iv,eY,jh⟩:=Kd.R_elem ab.out z35 (ah:Int) od (by have h_:(ah:Int) < ((ak.length:Int):Int):=od;(exact h_))
    obtain rfl:=k35_openM iv
    have ex:=(Kd.R_seg ab.out (ah:Int) od (by have h_:(ah:Int) < ((ak.length:Int):Int):=od;(exact h_)) (seg:=[.int .i64 (wrap64 (((rdQ ad (aa)).f0)+7)),.int .i64 ((rdQ ad ah).f1),.int .i64 ((rdQ ad (aa)).f1),.int .i64 0,.int .i64 0]) (j:=0) fb eY (show 5≤5 from by decide) (x':=(⟨wrap64 (((rdQ ad (aa)).f0)+7),(rdQ ad ah).f1,(rdQ ad (aa)).f1,0,0⟩:S35)) (k35_mkM _ _ _ (⟨wrap64 (((rdQ ad (aa)).f0)+7),(rdQ ad ah).f1,(rdQ ad (aa)).f1,0,0⟩:S35) ) (fun _ hk=>hk)).1
    rw [← kJ.out] at ex
    have hU:=Aside0.mk ex
    clear fb eY jh iv ex
    refine start_ (n:=17) (S:=fun w'=>w'.cell? ⟨aU,0,none⟩=some (.slice (some ⟨ba,0,none⟩) ak.length eP)∧w'.cell? ⟨aU,1,none⟩=some (u382001)∧w'.cell? ⟨aU,2,none⟩=some (.slice bk aW.length bl)∧w'.cell? ⟨ag,0,none⟩=some (.int .i64 ((rdQ ad (aa)).f0))∧w'.cell? ⟨ag,1,none⟩=some (.int .i64 ((rdQ ad (aa)).f1))∧w'.cell? ⟨ag,2,none⟩=some (.int .i64 ((rdQ ad (aa)).f2))∧w'.cell? ⟨ag,3,none⟩=some (.int .i64 ((rdQ ad (aa)).f3))∧w'.cell? ⟨ag,4,none⟩=some (.int .i64 ((rdQ ad (aa)).f4))∧w'.cell? ⟨bc,0,none⟩=some (.slice (some aF) ad.length bp)∧w'.cell? ⟨bc,1,none⟩=some (.slice bu ay.length bq)∧w'.cell? ⟨bc,2,none⟩=some (.slice bo aP.length br)∧w'.cell? (aF.add ((ah).toNat*5))=some (.int .i64 ((rdQ ad ah).f0))∧w'.cell? ⟨(aF.add ((ah).toNat*5)).block,(aF.add ((ah).toNat*5)).off+1,none⟩=some (.int .i64 ((rdQ ad ah).f1))∧w'.cell? ⟨(aF.add ((ah).toNat*5)).block,(aF.add ((ah).toNat*5)).off+2,none⟩=some (.int .i64 ((rdQ ad ah).f2))∧w'.cell? ⟨(aF.add ((ah).toNat*5)).block,(aF.add ((ah).toNat*5)).off+3,none⟩=some (.int .i64 ((rdQ ad ah).f3))∧w'.cell? ⟨(aF.add ((ah).toNat*5)).block,(aF.add ((ah).toNat*5)).off+4,none⟩=some (.int .i64 ((rdQ ad ah).f4))) (ds:=[16]) (fl 17 0) (by kernel_rfl) rfl rfl ⟨(bk_c aj.out 0).trans rfl,(bk_c aj.out 1).trans rfl,(bk_c aj.out 2).trans rfl,(bk_c am.out 0).trans rfl,(bk_c am.out 1).trans rfl,(bk_c am.out 2).trans rfl,(bk_c am.out 3).trans rfl,(bk_c am.out 4).trans rfl,(bk_c af.out 0).trans rfl,(bk_c af.out 1).trans rfl,(bk_c af.out 2).trans rfl,((HB.out.cell (World.block_lt_of_cell? w _ dS)).trans dS),((HB.out.cell (World.block_lt_of_cell? w _ dT)).trans dT),((HB.out.cell (World.block_lt_of_cell? w _ dU)).trans dU),((HB.out.cell (World.block_lt_of_cell? w _ dV)).trans dV),((HB.out.cell (World.block_lt_of_cell? w _ dW)).trans dW)⟩ (fun hHeld=>?_);refine with_tabW rfFuse.tab30 rfFuse.bits30 (fun HT_ HW_=>?_)
    generalize vC.drew=pI at al ao ax ab ac ae af ai aj am HB di hU gq gr gs gt gu he hf hh hi hj bW bX bY bZ ca hHeld ⊢
    refine pA 17 0 144 1 ?_ HT_ (by kernel_rfl) rfl rfl (fun _ _ _ h=>h) (by rfl) ?_ ?_ ?_ ?_
    rotate_left
    intro w'
    go_simp
    with_reducible rfl
    rotate_left
    simp only [Act.put,s1,s2,s3,i64_w,i32_w]
    rfl
    refine pA 17 2 146 5 ?_ HT_ (by kernel_rfl) rfl rfl (fun _ _ _ h=>h) (by rfl) ?_ ?_ ?_ ?_
    rotate_left
    intro w'
    go_simp
    with_reducible rfl
    rotate_left
    simp only [Act.put,s1,s2,s3,i64_w,i32_w]
    rfl
    refine pA 17 3 147 13 ?_ HT_ (by kernel_rfl) rfl rfl (fun _ _ _ h=>h) (by rfl) ?_ ?_ ?_ ?_
    rotate_left
    intro w'
    go_simp
    with_reducible rfl
    rotate_left
    simp only [Act.put,s1,s2,s3,i64_w,i32_w]
    rfl
    refine pA 17 6 150 77 ?_ HT_ (by kernel_rfl) rfl rfl (fun _ _ _ h=>h) (by rfl) ?_ ?_ ?_ ?_
    rotate_left
    intro w'
    go_simp
    with_reducible rfl
    rotate_left
    simp only [Act.put,s1,s2,s3,i64_w,i32_w]
    rfl
    refine pA 17 8 152 333 ?_ HT_ (by kernel_rfl) rfl rfl (fun _ _ _ h=>h) (by rfl) ?_ ?_ ?_ ?_
    rotate_left
    intro w'
    go_simp
    with_reducible rfl
    rotate_left
    simp only [Act.put,s1,s2,s3,i64_w,i32_w]
    rfl
    refine pA 17 12 156 4429 ?_ HT_ (by kernel_rfl) rfl rfl (fun _ _ _ h=>h) (by rfl) ?_ ?_ ?_ ?_
    rotate_left
    intro w'
    go_simp
    with_reducible rfl
    rotate_left
    simp only [Act.put,s1,s2,s3,i64_w,i32_w]
    rfl
    refine pT 17 1 145 4431 ?_ HT_ HW_ (by kernel_rfl) rfl rfl (fun _ _ _ h=>h) (by rfl) ?_ hHeld ?_ ?_ ?_
    rotate_left
    rintro w' ⟨_,_,_,_,_,_,_,_,_,_,_,_,_,_,_,_⟩
    go_simp
    with_reducible rfl
    rotate_left
    simp only [Act.put,s1,s2,s3,i64_w,i32_w]
    rfl
    refine pT 17 4 148 4447 ?_ HT_ HW_ (by kernel_rfl) rfl rfl (fun _ _ _ h=>h) (by rfl) ?_ hHeld ?_ ?_ ?_
    rotate_left
    rintro w' ⟨_,_,_,_,_,_,_,_,_,_,_,_,_,_,_,_⟩
    go_simp
    with_reducible rfl
    rotate_left
    simp only [Act.put,s1,s2,s3,i64_w,i32_w]
    rfl
    refine pA 17 5 149 4479 ?_ HT_ (by kernel_rfl) rfl rfl (fun _ _ _ h=>h) (by rfl) ?_ ?_ ?_ ?_
    rotate_left
    intro w'
    go_simp
    with_reducible rfl
    rotate_left
    simp only [Act.put,s1,s2,s3,i64_w,i32_w]
    rfl
    refine pT 17 7 151 4607 ?_ HT_ HW_ (by kernel_rfl) rfl rfl (fun _ _ _ h=>h) (by rfl) ?_ hHeld ?_ ?_ ?_
    rotate_left
    rintro w' ⟨_,_,_,_,_,_,_,_,_,_,_,_,_,_,_,_⟩
    go_simp
    with_reducible rfl
    rotate_left
    simp only [Act.put,s1,s2,s3,i64_w,i32_w]
    rfl
    refine pA 17 9 153 5119 ?_ HT_ (by kernel_rfl) rfl rfl (fun _ _ _ h=>h) (by rfl) ?_ ?_ ?_ ?_
    rotate_left
    intro w'
    go_simp
    with_reducible rfl
    rotate_left
    simp only [Act.put,s1,s2,s3,i64_w,i32_w]
    rfl
    refine pA 17 10 154 6143 ?_ HT_ (by kernel_rfl) rfl rfl (fun _ _ _ h=>h) (by rfl) ?_ ?_ ?_ ?_
    rotate_left
    intro w'
    go_simp
    with_reducible rfl
    rotate_left
    simp only [Act.put,s1,s2,s3,i64_w,i32_w]
    rfl
    refine pT 17 11 155 8191 ?_ HT_ HW_ (by kernel_rfl) rfl rfl (fun _ _ _ h=>h) (by rfl) ?_ hHeld ?_ ?_ ?_
    rotate_left
    rintro w' ⟨_,_,_,_,_,_,_,_,_,_,_,_,_,_,_,_⟩
    go_simp
    with_reducible rfl
    rotate_left
    simp only [Act.put,s1,s2,s3,i64_w,i32_w]
    rfl
    refine pT 17 13 157 16383 ?_ HT_ HW_ (by kernel_rfl) rfl rfl (fun _ _ _ h=>h) (by rfl) ?_ hHeld ?_ ?_ ?_
    rotate_left
    rintro w' ⟨_,_,_,_,_,_,_,_,_,_,_,_,_,_,_,_⟩
    go_simp
    with_reducible rfl
    rotate_left
    simp only [Act.put,s1,s2,s3,i64_w,i32_w]
    rfl
    refine pA 17 14 158 32767 ?_ HT_ (by kernel_rfl) rfl rfl (fun _ _ _ h=>h) (by rfl) ?_ ?_ ?_ ?_
    rotate_left
    intro w'
    go_simp
    with_reducible rfl
    rotate_left
    simp only [Act.put,s1,s2,s3,i64_w,i32_w]
    rfl
    refine pA 17 15 159 65535 ?_ HT_ (by kernel_rfl) rfl rfl (fun _ _ _ h=>h) (by rfl) ?_ ?_ ?_ ?_
    rotate_left
    intro w'
    go_simp
    with_reducible rfl
    rotate_left
    simp only [Act.put,s1,s2,s3,i64_w,i32_w]
    rfl
    refine pL 17 16 131071 (none) HT_ (by kernel_rfl) rfl rfl (by decide) (fun K hK=>?_)
    refine skip_ (w1:=?_) (by rfl) rfl ?_ ?_
    rotate_left
    ·go_simp
     rfl
    refine hK.out _ _ ?_
    clear hK K
    refine done_ (done_of HT_.out (by kernel_rfl)) ?_
    obtain ⟨hC,hW⟩:∃ w_,w_=(((((pI.setCell ⟨ba,(ah:Int).toNat*5,none⟩ (.int .i64 (wrap64 (((rdQ ad (aa)).f0)+7)))).setCell ⟨ba,(ah:Int).toNat*5+1,none⟩ (.int .i64 ((rdQ ad ah).f1))).setCell ⟨ba,(ah:Int).toNat*5+2,none⟩ (.int .i64 ((rdQ ad (aa)).f1))).setCell ⟨ba,(ah:Int).toNat*5+3,none⟩ (.int .i64 0)).setCell ⟨ba,(ah:Int).toNat*5+4,none⟩ (.int .i64 0)):=⟨_,rfl⟩
    rw [← hW]
    have hK:KB ba pI hC:=by rw [hW];exact kb5
    replace al:=zR al di (by decide) hK
    replace ao:=zR ao di (by decide) hK
    replace ax:=zR ax di (by decide) hK
    replace ac:=zM ac (fun _ hk=>fun e_=>hk.1 (by rw [e_];rfl)) hK
    replace ae:=zRm ae di (by decide) hK (fun _ _=>trivial)
    replace af:=zb af (zn ab af (by decide)) hK
    replace ai:=zb ai (zn ab ai (by decide)) hK
    replace aj:=zb aj (zn ab aj (by decide)) hK
    replace am:=zb am (za ab (fun _ hk=>hk.2)) hK
    replace ab:Aside0 (Kd.R k35 35 hC w.heap.size (fun k_=>some k_≠(u382001:Value).ownBlock∧k_≠ag) (.slice (some ⟨ba,0,none⟩) ak.length eP) pS):=by rw [hW];exact hU
    replace HB:=zB HB km hK
    clear hW hK
    have jx:0≤((aa):Int):=od
    have jJ:((aa):Int) < ((bd.length:Int):Int):=od
    obtain ⟨cG,dp,ih,io,lW,wo,kv⟩:=Kd.R_form ax.out (by omega)
    (first | cases ih | (injection ih with ea_ en_ ec_;(fail);subst ec_;clear en_))
    have kn:=Aside0.mk io
    clear io lW kv
    obtain ⟨rt,qQ⟩:=Kd.R_celln false ax.out ((aa):Int) jx jJ
    replace jx:=eq_true jx
    replace jJ:=eq_true jJ
    obtain ⟨vc,vf⟩:=Kd.R_celln false ax.out ((aa):Int) od od
    have ey:=Kd.R_putg ax.out ((aa):Int) false
    try go_wp2_with (((with_reducible refine gate_store (t:=4) (p:=163) rfl ?_);refine store_event (t:=4) (p:=163) (v:=?kd) (w1:=(hC.setCell ⟨cG,((aa):Int).toNat,none⟩ (.bool false))) ?hg ?ho ?hn ?hr ?_;(case ho=>rfl);(case hg=>rfl);(case hn=>rfl);(case hr=>(go_simp;done));intro jW hw;have hg:hC.grownBy jW (some cG):=(by rw [hw];exact ey.2);have hp_:Kd.R Kd.bool 4 jW w.heap.size (fun k_=>some k_≠(.slice (some cy) bf.length dq:Value).ownBlock∧some k_≠(be:Value).ownBlock) (.slice (some ⟨cG,0,none⟩) bd.length dp) pU:=(by rw [hw,kK.out];exact ey.1);clear ey;replace al:=Aside0.mk (Kd.R_after (v:=(.slice (some ⟨cG,0,none⟩) bd.length dp)) (v1:=(.slice (some ⟨cG,0,none⟩) bd.length dp)) (ok:=(fun k_=>some k_≠(be:Value).ownBlock)) al.out hg (.inl rfl));replace ao:=Aside0.mk (Kd.R_after (v:=(.slice (some ⟨cG,0,none⟩) bd.length dp)) (v1:=(.slice (some ⟨cG,0,none⟩) bd.length dp)) (ok:=(fun k_=>some k_≠(.slice (some cy) bf.length dq:Value).ownBlock)) ao.out hg (.inl rfl));replace ab:=qo ab ax (by decide) hg;replace ac:=qo ac ax (by decide) hg;replace ae:=qo ae ax (by decide) hg;replace af:=qg af hg ax (by decide);replace ai:=qg ai hg ax (by decide);replace aj:=qg aj hg ax (by decide);replace am:=qg am hg ax (by decide);replace ax:=Aside0.mk hp_;replace HB:=Aside0.mk ((by rw [hw];exact b_st (HB.out) kn.out:Below w.heap.size w jW));clear hg hw hp_))
    go_roundg k4
    case measure=>have:=bz.out;have:=ct.out;have:=cC.out;have:=cL.out;omega
    case rel=>exact ⟨(pU),(wrap64 ((aa)+1)),(pS),(aI),(.slice (some ⟨ba,0,none⟩) ak.length eP),(u382001),rfl,H',⟨by have:=bz.out;have:=ct.out;have:=cC.out;have:=cL.out;omega⟩,al,ao,ax,⟨by exact Kd.R_mono ab.out (fun _ hk=>hk.1)⟩,⟨by exact Kd.R_mono ac.out (fun _ hk=>hk.1)⟩,ae,af,ai,aj,HB⟩
   rw [if_neg eJ] at H
   obtain ⟨iN,iO⟩:=cBf eJ
   have H':=Aside0.mk H
   clear H
   have tE:=ar.out
   have uz:=au.out
   have tF:=ap.out
   have uA:=aw.out
   refine qc3 af fun mW mX mY oL oM oN=>?_
   obtain ⟨aF,cD,fD,fE,bM,bN,bO,bP,bQ⟩:=rd35 av HB (aa)
   cases cD
   go_wp2_with (first | ((with_reducible refine gate_dst (N:=11) rfl ?_);refine box_event ?hg (N:=11) ?hd (cs:=#[.int .i64 0,.int .i64 0,.int .i64 0,.int .i64 0,.int .i64 0]) (t:=35) ?hr ?_;(case hd=>rfl);(case hg=>rfl);(case hr=>(go_simp;done));intro ag hg xP hbox hb;replace al:=qB al hb;replace ao:=qB ao hb;replace ax:=qB ax hb;replace ab:=Aside0.mk (Kd.R_below (Kd.R_elderB ab.out ag (Nat.le_of_eq hg.symm)) hb);replace ac:=Aside0.mk (Kd.R_below (Kd.R_elderB ac.out ag (Nat.le_of_eq hg.symm)) hb);replace ae:=qB ae hb;have am:=Aside0.mk hbox;have aE:=qz HB hg;have bw:=qz HB hg;replace HB:=qs HB hb;have aA:=qn af hg;have aQ:=qN af hg;replace af:=qb af hb;have aB:=qn ai hg;have aR:=qN ai hg;replace ai:=qb ai hb;have aC:=qn aj hg;have aS:=qN aj hg;replace aj:=qb aj hb;clear hb hbox hg;have tG:=aQ.out;have uB:=aA.out;have tH:=aR.out;have uC:=aB.out;have tI:=aS.out;have uD:=aC.out;refine qc5 am fun mZ na nb nc nd oO oP oQ oR oS=>?_;refine qc3 af fun ne nf ng oT oU oV=>?_;have aG:0≤(ah:Int):=od;have aH:ah < (ad.length:Int):=od;obtain ⟨bx,cE,aK,aL,aM,aN,aO⟩:=rq35 av HB ah aG aH;obtain rfl:aF=bx:=(by injection cE);have an:=nq35 av ah aG aH aE;have bG:=nq35 av ah aG aH aE;have bH:=nq35 av ah aG aH aE;have bI:=nq35 av ah aG aH aE;have bJ:=nq35 av ah aG aH aE;have hK:=fun w=>@kB5 ag w (0) (1) (2) (3) (4) (.int .i64 ((rdQ ad (aa)).f0)) (.int .i64 ((rdQ ad (aa)).f1)) (.int .i64 ((rdQ ad (aa)).f2)) (.int .i64 ((rdQ ad (aa)).f3)) (.int .i64 ((rdQ ad (aa)).f4));replace aK:=zc aK (by rw [add_block];exact an) (hK _);replace aL:=zc aL (by rw [add_block];exact an) (hK _);replace aM:=zc aM (by rw [add_block];exact an) (hK _);replace aN:=zc aN (by rw [add_block];exact an) (hK _);replace aO:=zc aO (by rw [add_block];exact an) (hK _);clear hK;clear an;replace aG:=eq_true aG;replace aH:=eq_true aH))
   go_roundg k4
   case measure=>have:=bz.out;have:=ct.out;have:=cC.out;have:=cL.out;omega
   case rel=>exact ⟨(bd),(aa),(ak),(aI),(u382000),(u382001),rfl,H',⟨by have:=bz.out;have:=ct.out;have:=cC.out;have:=cL.out;omega⟩,zR al am (by decide) kb5,zR ao am (by decide) kb5,zR ax am (by decide) kb5,zMm ab (fun _ hk=>hk.2) kb5 (fun _ hk=>hk.1),zMm ac (fun _ hk=>hk.2) kb5 (fun _ hk=>hk.1),zRm ae am (by decide) kb5 (fun _ _=>trivial),zb af aA.out kb5,zb ai aB.out kb5,zb aj aC.out kb5,⟨by repeat ((with_reducible first | exact HB.out | refine b_st ?_ bw.out))⟩⟩
  rw [if_neg eH] at H
  obtain ⟨iJ,iK⟩:=cBf eH
  have H':=Aside0.mk H
  clear H
  have tJ:=ar.out
  have uE:=au.out
  have tK:=ap.out
  have uF:=aw.out
  refine qc3 af fun nh ni nj oW oX oY=>?_
  obtain ⟨aF,cD,fD,fE,bM,bN,bO,bP,bQ⟩:=rd35 av HB (aa)
  cases cD
  go_wp2_with (first | ((with_reducible refine gate_dst (N:=11) rfl ?_);refine box_event ?hg (N:=11) ?hd (cs:=#[.int .i64 0,.int .i64 0,.int .i64 0,.int .i64 0,.int .i64 0]) (t:=35) ?hr ?_;(case hd=>rfl);(case hg=>rfl);(case hr=>(go_simp;done));intro ag hg xQ hbox hb;replace al:=qB al hb;replace ao:=qB ao hb;replace ax:=qB ax hb;replace ab:=Aside0.mk (Kd.R_below (Kd.R_elderB ab.out ag (Nat.le_of_eq hg.symm)) hb);replace ac:=Aside0.mk (Kd.R_below (Kd.R_elderB ac.out ag (Nat.le_of_eq hg.symm)) hb);replace ae:=qB ae hb;have am:=Aside0.mk hbox;have aE:=qz HB hg;have bw:=qz HB hg;replace HB:=qs HB hb;have aA:=qn af hg;have aQ:=qN af hg;replace af:=qb af hb;have aB:=qn ai hg;have aR:=qN ai hg;replace ai:=qb ai hb;have aC:=qn aj hg;have aS:=qN aj hg;replace aj:=qb aj hb;clear hb hbox hg;have tL:=aQ.out;have uG:=aA.out;have tM:=aR.out;have uH:=aB.out;have tN:=aS.out;have uI:=aC.out;refine qc5 am fun nk nl nm nn no oZ pa pb pc pd=>?_;refine qc3 af fun np nq nr pe pf pg=>?_;have aG:0≤(ah:Int):=od;have aH:ah < (ad.length:Int):=od;obtain ⟨bx,cE,aK,aL,aM,aN,aO⟩:=rq35 av HB ah aG aH;obtain rfl:aF=bx:=(by injection cE);have an:=nq35 av ah aG aH aE;have bG:=nq35 av ah aG aH aE;have bH:=nq35 av ah aG aH aE;have bI:=nq35 av ah aG aH aE;have bJ:=nq35 av ah aG aH aE;have hK:=fun w=>@kB5 ag w (0) (1) (2) (3) (4) (.int .i64 ((rdQ ad (aa)).f0)) (.int .i64 ((rdQ ad (aa)).f1)) (.int .i64 ((rdQ ad (aa)).f2)) (.int .i64 ((rdQ ad (aa)).f3)) (.int .i64 ((rdQ ad (aa)).f4));replace aK:=zc aK (by rw [add_block];exact an) (hK _);replace aL:=zc aL (by rw [add_block];exact an) (hK _);replace aM:=zc aM (by rw [add_block];exact an) (hK _);replace aN:=zc aN (by rw [add_block];exact an) (hK _);replace aO:=zc aO (by rw [add_block];exact an) (hK _);clear hK;clear an;replace aG:=eq_true aG;replace aH:=eq_true aH))
  go_roundg k4
  case measure=>have:=bz.out;have:=ct.out;have:=cC.out;have:=cL.out;omega
  case rel=>exact ⟨(bd),(aa),(ak),(aI),(u382000),(u382001),rfl,H',⟨by have:=bz.out;have:=ct.out;have:=cC.out;have:=cL.out;omega⟩,zR al am (by decide) kb5,zR ao am (by decide) kb5,zR ax am (by decide) kb5,zMm ab (fun _ hk=>hk.2) kb5 (fun _ hk=>hk.1),zMm ac (fun _ hk=>hk.2) kb5 (fun _ hk=>hk.1),zRm ae am (by decide) kb5 (fun _ _=>trivial),zb af aA.out kb5,zb ai aB.out kb5,zb aj aC.out kb5,⟨by repeat ((with_reducible first | exact HB.out | refine b_st ?_ bw.out))⟩⟩
 rw [if_neg en] at H
 have du:=decide_eq_false en
 clear en
 replace H:=Option.bind_eq_some_iff.mp H
 obtain ⟨pG,hF,H⟩:=H
 try dsimp only at H
 have rX:=Aside0.mk hF
 clear hF
 have H':=Aside0.mk H
 clear H
 have tO:=ar.out
 have uJ:=au.out
 have tP:=ap.out
 have uK:=aw.out
 refine qc3 af fun fg fh fi fn fo fp=>?_
 go_wp2_with (first | ((with_reducible refine gate_callee (f:=40) rfl ?_);refine goesL_ (some 169) rfl rfl Try.func40 (by kernel_rfl) rfl #[.int .i64 (ay.length:Int)] rfl (by (try simp only [List.map_toArray,List.map_cons,List.map_nil]);(rfl)) ?_;(with_reducible refine (rfall.calls k4 (ay.length:Int) pG _ rX.out).mono ?_);rintro e xR ⟨jT,rfl,cI,hb⟩;refine ⟨_,rfl,?_⟩;replace ab:=qB ab hb;replace ac:=qB ac hb;replace ae:=qB ae hb;have kz:=ql (qw (qw (qw cI al) ao) ax) HB;replace al:=qe al cI hb;replace ao:=qe ao cI hb;replace ax:=qe ax cI hb;replace af:=qb af hb;replace ai:=qb ai hb;replace aj:=qb aj hb;replace HB:=qs HB hb;(try clear hb);(try clear cI)))
 go_loopg [13] k4 (fun kq xC w'=>∃ (bj:List Bool) (aq:Int) (aY:List (S35)) (az:List (S35)) (u382000:Value) (u382001:Value),xC=.int .i64 aq∧Aside0 (rfFuse.l4 kq bv bd bj aq ad ay aP aY az aW=some (r1,r2,r3))∧Aside0 (kq≤k4)∧Aside0 (Kd.R Kd.bool 4 w' w.heap.size (fun k_=>some k_≠(cl:Value).ownBlock∧some k_≠(jT:Value).ownBlock) be bv)∧Aside0 (Kd.R Kd.bool 4 w' w.heap.size (fun k_=>some k_≠(be:Value).ownBlock∧some k_≠(jT:Value).ownBlock) cl bd)∧Aside0 (Kd.R Kd.bool 4 w' w.heap.size (fun k_=>some k_≠(be:Value).ownBlock∧some k_≠(cl:Value).ownBlock) jT bj)∧Aside0 (Kd.R k35 35 w' w.heap.size (fun k_=>some k_≠(u382001:Value).ownBlock) u382000 aY)∧Aside0 (Kd.R k35 35 w' w.heap.size (fun k_=>some k_≠(u382000:Value).ownBlock) u382001 az)∧Aside0 (Kd.R k37 37 w' w.heap.size (fun _=>True) (.slice bk aW.length bl) aW)∧Aside0 (w'.heap[bc]?=some (.cells #[(.slice bD ad.length bp),(.slice bu ay.length bq),(.slice bo aP.length br)] 30 (0,0)))∧Aside0 (w'.heap[aJ]?=some (.cells #[(.slice none 0 0),(.slice none 0 0),(.slice none 0 0)] 30 (0,0)))∧Aside0 (w'.heap[aU]?=some (.cells #[u382000,u382001,(.slice bk aW.length bl)] 30 (0,0)))∧Aside0 (Below w.heap.size w w'))
 case atStart=>exact ⟨(pG),(0),(ak),(aI),(u382000),(u382001),rfl,H',⟨Nat.le_refl _⟩,⟨by exact Kd.R_mono ao.out (fun _ hk=>⟨hk.1.2,hk.2⟩)⟩,⟨by exact Kd.R_mono ax.out (fun _ hk=>⟨hk.1.2,hk.2⟩)⟩,⟨by exact Kd.R_mono kz.out (fun _ hk=>⟨hk.1.2,hk.2⟩)⟩,ab,ac,ae,af,ai,aj,HB⟩
 clear H'
 clear du fg fh fi fn fo fp
 obtain ⟨bj,aq,aY,az,u382000,u382001,rfl,HA,hM,ao,ax,aV,ab,ac,ae,af,ai,aj,HB⟩:=hrel
 obtain _ | k5:=gk
 ·exact absurd HA.out (by simp [rfFuse.l4])
 have H:=HA.out
 clear HA
 simp only [rfFuse.l4] at H
 by_cases eo:(wrap64 (aq+1)) < (ay.length:Int)
 ·rw [if_pos eo] at H
  have eK:=decide_eq_true eo
  clear eo
  replace H:=iNd H
  obtain ⟨ss,H⟩:=H
  replace H:=iNd H
  obtain ⟨st,H⟩:=H
  by_cases eL:((rdQ ay aq).f0)=17
  ·rw [if_pos eL] at H
   obtain ⟨iQ,iR⟩:=cBt eL
   clear eL
   obtain ⟨aD,dB⟩:∃ j_:Int,(wrap64 (aq+1))=j_:=⟨_,rfl⟩
   rw [dB] at H
   (try rw [dB] at eK)
   have rr:(IntKind.i64.wrap (aq+1))=aD:=(i64_w _).trans dB
   replace H:=iNd H
   obtain ⟨su,H⟩:=H
   by_cases eM:((rdQ ay (aD)).f0)=18
   ·rw [if_pos eM] at H
    obtain ⟨iS,iT⟩:=cBt eM
    clear eM
    replace H:=iNd H
    obtain ⟨sv,H⟩:=H
    obtain ⟨kX,dz⟩:∃ b_:Bool,b_=(rdOf false bv (aD)):=⟨_,rfl⟩
    rw [← dz] at H
    have eD:=Aside0.mk dz
    clear dz
    by_cases fM:(kX=true)
    ·subst fM
     replace H:=iP H
     have H':=Aside0.mk H
     clear H
     have tQ:=ar.out
     have uL:=au.out
     have tR:=ap.out
     have uM:=aw.out
     refine qc3 af fun ns nt nu ph pi pj=>?_
     obtain ⟨aT,dw,jD,jP,da,db,dc,dd,de⟩:=rd35 bg HB aq
     cases dw
     obtain ⟨dl,eR,pD,pE,eh,ei,ej,ek,el⟩:=rd35 bg HB (aD)
     obtain rfl:aT=dl:=(by injection eR)
     obtain ⟨vO,wu,lA⟩:=Kd.R_slice ao.out
     subst lA
     obtain ⟨eE,jc,vk,vt,df⟩:=rob ao (aD)
     (try rw [← eD.out] at df)
     cases jc
     go_wp2
     go_roundg k5
     case measure=>have:=bz.out;have:=ct.out;have:=cC.out;have:=cL.out;have:=hM.out;omega
     case rel=>exact ⟨(bj),(aD),(aY),(az),(u382000),(u382001),rfl,H',⟨by have:=bz.out;have:=ct.out;have:=cC.out;have:=cL.out;have:=hM.out;omega⟩,ao,ax,aV,ab,ac,ae,af,ai,aj,HB⟩
    replace fM:=Bool.eq_false_iff.mpr fM
    subst fM
    replace H:=iF H
    replace H:=iNd H
    obtain ⟨sw,H⟩:=H
    obtain ⟨pV,fB⟩:∃ y_:List (S35),y_=(az.set (aq:Int).toNat (⟨25,(rdQ ay aq).f1,(rdQ ay (aD)).f1,0,0⟩:S35)):=⟨_,rfl⟩
    rw [← fB] at H
    have kL:=Aside0.mk fB
    clear fB
    replace H:=iNd H
    obtain ⟨sx,H⟩:=H
    obtain ⟨pW,fC⟩:∃ y_:List Bool,y_=(bj.set ((aD):Int).toNat false):=⟨_,rfl⟩
    rw [← fC] at H
    have kM:=Aside0.mk fC
    clear fC
    have H':=Aside0.mk H
    clear H
    have tS:=ar.out
    have uN:=au.out
    have tT:=ap.out
    have uO:=aw.out
    refine qc3 af fun nv nw nx pk pl pm=>?_
    obtain ⟨aT,dw,jD,jP,da,db,dc,dd,de⟩:=rd35 bg HB aq
    cases dw
    obtain ⟨dl,eR,pD,pE,eh,ei,ej,ek,el⟩:=rd35 bg HB (aD)
    obtain rfl:aT=dl:=(by injection eR)
    obtain ⟨vP,ib,lB⟩:=Kd.R_slice ao.out
    subst lB
    obtain ⟨eE,jc,vk,vt,df⟩:=rob ao (aD)
    (try rw [← eD.out] at df)
    cases jc
    try go_wp2
    replace ao:=qD ao
    replace ax:=qD ax
    replace aV:=qD aV
    replace ab:=qD ab
    replace ac:=qD ac
    replace ae:=qD ae
    replace af:=qr af
    replace ai:=qr ai
    replace aj:=qr aj
    replace HB:=qd HB
    have jE:0≤(aq:Int):=od
    have jQ:aq < (ay.length:Int):=od
    obtain ⟨kT,sF,cb,cc,cd,ce,cf⟩:=at_T35 bg.out aq jE jQ
    have eb:=cf
    have ea:=ce
    have dZ:=cd
    have dY:=cc
    have dX:=cb
    obtain rfl:aT=kT:=(by injection sF)
    replace cb:=(HB.out.cell (World.block_lt_of_cell? w _ cb)).trans cb
    replace cc:=(HB.out.cell (World.block_lt_of_cell? w _ cc)).trans cc
    replace cd:=(HB.out.cell (World.block_lt_of_cell? w _ cd)).trans cd
    replace ce:=(HB.out.cell (World.block_lt_of_cell? w _ ce)).trans ce
    replace cf:=(HB.out.cell (World.block_lt_of_cell? w _ cf)).trans cf
    replace jE:=eq_true jE
    replace jQ:=eq_true jQ
    have jF:0≤((aD):Int):=od
    have jR:(aD) < (ay.length:Int):=od
    obtain ⟨kU,sG,cg,ch,ci,cj,ck⟩:=at_T35 bg.out (aD) jF jR
    have eg:=ck
    have ef:=cj
    have ee:=ci
    have ed:=ch
    have ec:=cg
    obtain rfl:aT=kU:=(by injection sG)
    replace cg:=(HB.out.cell (World.block_lt_of_cell? w _ cg)).trans cg
    replace ch:=(HB.out.cell (World.block_lt_of_cell? w _ ch)).trans ch
    replace ci:=(HB.out.cell (World.block_lt_of_cell? w _ ci)).trans ci
    replace cj:=(HB.out.cell (World.block_lt_of_cell? w _ cj)).trans cj
    replace ck:=(HB.out.cell (World.block_lt_of_cell? w _ ck)).trans ck
    replace jF:=eq_true jF
    replace jR:=eq_true jR
    have jy:0≤(aq:Int):=od
    have jK:(aq:Int) < ((az.length:Int):Int):=od
    obtain ⟨bb,eQ,ii,ip,lX,wp,hL⟩:=Kd.R_form ac.out (by omega)
    (first | cases ii | (injection ii with ea_ en_ ec_;(fail);subst ec_;clear en_))
    have ko:=Aside0.mk ip
    have dj:=Aside0.mk hL
    clear ip lX hL
    obtain ⟨wj,jf,iw,co,cr⟩:=Kd.R_elem ac.out z35 (aq:Int) jy jK
    obtain rfl:=k35_openM iw
    have hl:World.cell? _ ⟨bb,(aq:Int).toNat*5,none⟩=some (.int .i64 ((rdQ az aq).f0)):=co 0 _ rfl
    have hm:World.cell? _ ⟨bb,(aq:Int).toNat*5+1,none⟩=some (.int .i64 ((rdQ az aq).f1)):=co 1 _ rfl
    have hp:World.cell? _ ⟨bb,(aq:Int).toNat*5+2,none⟩=some (.int .i64 ((rdQ az aq).f2)):=co 2 _ rfl
    have hq:World.cell? _ ⟨bb,(aq:Int).toNat*5+3,none⟩=some (.int .i64 ((rdQ az aq).f3)):=co 3 _ rfl
    have hs:World.cell? _ ⟨bb,(aq:Int).toNat*5+4,none⟩=some (.int .i64 ((rdQ az aq).f4)):=co 4 _ rfl
    have gv:World.frozen? _ ⟨bb,(aq:Int).toNat*5,none⟩=false:=cr 0
    have gw:World.frozen? _ ⟨bb,(aq:Int).toNat*5+1,none⟩=false:=cr 1
    have gx:World.frozen? _ ⟨bb,(aq:Int).toNat*5+2,none⟩=false:=cr 2
    have gy:World.frozen? _ ⟨bb,(aq:Int).toNat*5+3,none⟩=false:=cr 3
    have gz:World.frozen? _ ⟨bb,(aq:Int).toNat*5+4,none⟩=false:=cr 4
    clear jf co cr iw
    replace jy:=eq_true jy
    replace jK:=eq_true jK
    obtain ⟨wk,fc,ix,eZ,ji⟩:=Kd.R_elem ac.out z35 (aq:Int) od (by have h_:(aq:Int) < ((az.length:Int):Int):=od;(exact h_))
    obtain rfl:=k35_openM ix
    have ez:=(Kd.R_seg ac.out (aq:Int) od (by have h_:(aq:Int) < ((az.length:Int):Int):=od;(exact h_)) (seg:=[.int .i64 25,.int .i64 ((rdQ ay aq).f1),.int .i64 ((rdQ ay (aD)).f1),.int .i64 0,.int .i64 0]) (j:=0) fc eZ (show 5≤5 from by decide) (x':=(⟨25,(rdQ ay aq).f1,(rdQ ay (aD)).f1,0,0⟩:S35)) (k35_mkM _ _ _ (⟨25,(rdQ ay aq).f1,(rdQ ay (aD)).f1,0,0⟩:S35) ) (fun _ hk=>hk)).1
    rw [← kL.out] at ez
    have hV:=Aside0.mk ez
    clear fc eZ ji ix ez
    refine start_ (n:=19) (S:=fun w'=>w'.cell? ⟨aU,0,none⟩=some (u382000)∧w'.cell? ⟨aU,1,none⟩=some (.slice (some ⟨bb,0,none⟩) az.length eQ)∧w'.cell? ⟨aU,2,none⟩=some (.slice bk aW.length bl)∧w'.cell? ⟨bc,0,none⟩=some (.slice bD ad.length bp)∧w'.cell? ⟨bc,1,none⟩=some (.slice (some aT) ay.length bq)∧w'.cell? ⟨bc,2,none⟩=some (.slice bo aP.length br)∧w'.cell? (aT.add ((aq).toNat*5))=some (.int .i64 ((rdQ ay aq).f0))∧w'.cell? ⟨(aT.add ((aq).toNat*5)).block,(aT.add ((aq).toNat*5)).off+1,none⟩=some (.int .i64 ((rdQ ay aq).f1))∧w'.cell? ⟨(aT.add ((aq).toNat*5)).block,(aT.add ((aq).toNat*5)).off+2,none⟩=some (.int .i64 ((rdQ ay aq).f2))∧w'.cell? ⟨(aT.add ((aq).toNat*5)).block,(aT.add ((aq).toNat*5)).off+3,none⟩=some (.int .i64 ((rdQ ay aq).f3))∧w'.cell? ⟨(aT.add ((aq).toNat*5)).block,(aT.add ((aq).toNat*5)).off+4,none⟩=some (.int .i64 ((rdQ ay aq).f4))∧w'.cell? (aT.add (((aD)).toNat*5))=some (.int .i64 ((rdQ ay (aD)).f0))∧w'.cell? ⟨(aT.add (((aD)).toNat*5)).block,(aT.add (((aD)).toNat*5)).off+1,none⟩=some (.int .i64 ((rdQ ay (aD)).f1))∧w'.cell? ⟨(aT.add (((aD)).toNat*5)).block,(aT.add (((aD)).toNat*5)).off+2,none⟩=some (.int .i64 ((rdQ ay (aD)).f2))∧w'.cell? ⟨(aT.add (((aD)).toNat*5)).block,(aT.add (((aD)).toNat*5)).off+3,none⟩=some (.int .i64 ((rdQ ay (aD)).f3))∧w'.cell? ⟨(aT.add (((aD)).toNat*5)).block,(aT.add (((aD)).toNat*5)).off+4,none⟩=some (.int .i64 ((rdQ ay (aD)).f4))) (ds:=[18]) (fl 19 0) (by kernel_rfl) rfl rfl ⟨(bk_c aj.out 0).trans rfl,(bk_c aj.out 1).trans rfl,(bk_c aj.out 2).trans rfl,(bk_c af.out 0).trans rfl,(bk_c af.out 1).trans rfl,(bk_c af.out 2).trans rfl,((HB.out.cell (World.block_lt_of_cell? w _ dX)).trans dX),((HB.out.cell (World.block_lt_of_cell? w _ dY)).trans dY),((HB.out.cell (World.block_lt_of_cell? w _ dZ)).trans dZ),((HB.out.cell (World.block_lt_of_cell? w _ ea)).trans ea),((HB.out.cell (World.block_lt_of_cell? w _ eb)).trans eb),((HB.out.cell (World.block_lt_of_cell? w _ ec)).trans ec),((HB.out.cell (World.block_lt_of_cell? w _ ed)).trans ed),((HB.out.cell (World.block_lt_of_cell? w _ ee)).trans ee),((HB.out.cell (World.block_lt_of_cell? w _ ef)).trans ef),((HB.out.cell (World.block_lt_of_cell? w _ eg)).trans eg)⟩ (fun hHeld=>?_);refine with_tabW rfFuse.tab38 rfFuse.bits38 (fun HT_ HW_=>?_)
    generalize wr.drew=pJ at ao ax aV ab ac ae af ai aj HB dj hV gv gw gx gy gz hl hm hp hq hs cb cc cd ce cf cg ch ci cj ck hHeld ⊢
    refine pA 19 0 203 1 ?_ HT_ (by kernel_rfl) rfl rfl (fun _ _ _ h=>h) (by rfl) ?_ ?_ ?_ ?_
    rotate_left
    intro w'
    go_simp
    with_reducible rfl
    rotate_left
    simp only [Act.put,s1,s2,s3,i64_w,i32_w]
    rfl
    refine pA 19 2 205 5 ?_ HT_ (by kernel_rfl) rfl rfl (fun _ _ _ h=>h) (by rfl) ?_ ?_ ?_ ?_
    rotate_left
    intro w'
    go_simp
    with_reducible rfl
    rotate_left
    simp only [Act.put,s1,s2,s3,i64_w,i32_w]
    rfl
    refine pA 19 3 206 13 ?_ HT_ (by kernel_rfl) rfl rfl (fun _ _ _ h=>h) (by rfl) ?_ ?_ ?_ ?_
    rotate_left
    intro w'
    go_simp
    with_reducible rfl
    rotate_left
    simp only [Act.put,s1,s2,s3,i64_w,i32_w]
    rfl
    refine pA 19 5 208 45 ?_ HT_ (by kernel_rfl) rfl rfl (fun _ _ _ h=>h) (by rfl) ?_ ?_ ?_ ?_
    rotate_left
    intro w'
    go_simp
    with_reducible rfl
    rotate_left
    simp only [Act.put,s1,s2,s3,i64_w,i32_w]
    rfl
    refine pA 19 9 212 557 ?_ HT_ (by kernel_rfl) rfl rfl (fun _ _ _ h=>h) (by rfl) ?_ ?_ ?_ ?_
    rotate_left
    intro w'
    go_simp
    with_reducible rfl
    rotate_left
    simp only [Act.put,s1,s2,s3,i64_w,i32_w]
    rfl
    refine pA 19 11 214 2605 ?_ HT_ (by kernel_rfl) rfl rfl (fun _ _ _ h=>h) (by rfl) ?_ ?_ ?_ ?_
    rotate_left
    intro w'
    go_simp
    with_reducible rfl
    rotate_left
    simp only [Act.put,s1,s2,s3,i64_w,i32_w]
    rfl
    refine pA 19 12 215 6701 ?_ HT_ (by kernel_rfl) rfl rfl (fun _ _ _ h=>h) (by rfl) ?_ ?_ ?_ ?_
    rotate_left
    intro w'
    go_simp
    with_reducible rfl
    rotate_left
    simp only [Act.put,s1,s2,s3,i64_w,i32_w]
    rfl
    refine pT 19 1 204 6703 ?_ HT_ HW_ (by kernel_rfl) rfl rfl (fun _ _ _ h=>h) (by rfl) ?_ hHeld ?_ ?_ ?_
    rotate_left
    rintro w' ⟨_,_,_,_,_,_,_,_,_,_,_,_,_,_,_,_⟩
    go_simp
    with_reducible rfl
    rotate_left
    simp only [Act.put,s1,s2,s3,i64_w,i32_w]
    rfl
    refine pT 19 4 207 6719 ?_ HT_ HW_ (by kernel_rfl) rfl rfl (fun _ _ _ h=>h) (by rfl) ?_ hHeld ?_ ?_ ?_
    rotate_left
    rintro w' ⟨_,_,_,_,_,_,_,_,_,_,_,_,_,_,_,_⟩
    go_simp
    with_reducible rfl
    rotate_left
    simp only [Act.put,s1,s2,s3,i64_w,i32_w]
    rfl
    refine pA 19 6 209 6783 ?_ HT_ (by kernel_rfl) rfl rfl (fun _ _ _ h=>h) (by rfl) ?_ ?_ ?_ ?_
    rotate_left
    intro w'
    go_simp
    with_reducible rfl
    rotate_left
    simp only [Act.put,s1,s2,s3,i64_w,i32_w]
    rfl
    refine pA 19 7 210 6911 ?_ HT_ (by kernel_rfl) rfl rfl (fun _ _ _ h=>h) (by rfl) ?_ ?_ ?_ ?_
    rotate_left
    intro w'
    go_simp
    with_reducible rfl
    rotate_left
    simp only [Act.put,s1,s2,s3,i64_w,i32_w]
    rfl
    refine pT 19 8 211 7167 ?_ HT_ HW_ (by kernel_rfl) rfl rfl (fun _ _ _ h=>h) (by rfl) ?_ hHeld ?_ ?_ ?_
    rotate_left
    rintro w' ⟨_,_,_,_,_,_,_,_,_,_,_,_,_,_,_,_⟩
    go_simp
    with_reducible rfl
    rotate_left
    simp only [Act.put,s1,s2,s3,i64_w,i32_w]
    rfl
    refine pT 19 10 213 8191 ?_ HT_ HW_ (by kernel_rfl) rfl rfl (fun _ _ _ h=>h) (by rfl) ?_ hHeld ?_ ?_ ?_
    rotate_left
    rintro w' ⟨_,_,_,_,_,_,_,_,_,_,_,_,_,_,_,_⟩
    go_simp
    with_reducible rfl
    rotate_left
    simp only [Act.put,s1,s2,s3,i64_w,i32_w]
    rfl
    refine pA 19 13 216 16383 ?_ HT_ (by kernel_rfl) rfl rfl (fun _ _ _ h=>h) (by rfl) ?_ ?_ ?_ ?_
    rotate_left
    intro w'
    go_simp
    with_reducible rfl
    rotate_left
    simp only [Act.put,s1,s2,s3,i64_w,i32_w]
    rfl
    refine pA 19 14 217 32767 ?_ HT_ (by kernel_rfl) rfl rfl (fun _ _ _ h=>h) (by rfl) ?_ ?_ ?_ ?_
    rotate_left
    intro w'
    go_simp
    with_reducible rfl
    rotate_left
    simp only [Act.put,s1,s2,s3,i64_w,i32_w]
    rfl
    refine pT 19 15 218 65535 ?_ HT_ HW_ (by kernel_rfl) rfl rfl (fun _ _ _ h=>h) (by rfl) ?_ hHeld ?_ ?_ ?_
    rotate_left
    rintro w' ⟨_,_,_,_,_,_,_,_,_,_,_,_,_,_,_,_⟩
    go_simp
    with_reducible rfl
    rotate_left
    simp only [Act.put,s1,s2,s3,i64_w,i32_w]
    rfl
    refine pA 19 16 219 131071 ?_ HT_ (by kernel_rfl) rfl rfl (fun _ _ _ h=>h) (by rfl) ?_ ?_ ?_ ?_
    rotate_left
    intro w'
    go_simp
    with_reducible rfl
    rotate_left
    simp only [Act.put,s1,s2,s3,i64_w,i32_w]
    rfl
    refine pA 19 17 220 262143 ?_ HT_ (by kernel_rfl) rfl rfl (fun _ _ _ h=>h) (by rfl) ?_ ?_ ?_ ?_
    rotate_left
    intro w'
    go_simp
    with_reducible rfl
    rotate_left
    simp only [Act.put,s1,s2,s3,i64_w,i32_w]
    rfl
    refine pL 19 18 524287 (none) HT_ (by kernel_rfl) rfl rfl (by decide) (fun K hK=>?_)
    refine skip_ (w1:=?_) (by rfl) rfl ?_ ?_
    rotate_left
    ·go_simp
     rfl
    refine hK.out _ _ ?_
    clear hK K
    refine done_ (done_of HT_.out (by kernel_rfl)) ?_
    obtain ⟨hD,hW⟩:∃ w_,w_=(((((pJ.setCell ⟨bb,(aq:Int).toNat*5,none⟩ (.int .i64 25)).setCell ⟨bb,(aq:Int).toNat*5+1,none⟩ (.int .i64 ((rdQ ay aq).f1))).setCell ⟨bb,(aq:Int).toNat*5+2,none⟩ (.int .i64 ((rdQ ay (aD)).f1))).setCell ⟨bb,(aq:Int).toNat*5+3,none⟩ (.int .i64 0)).setCell ⟨bb,(aq:Int).toNat*5+4,none⟩ (.int .i64 0)):=⟨_,rfl⟩
    rw [← hW]
    have hK:KB bb pJ hD:=by rw [hW];exact kb5
    replace ao:=zR ao dj (by decide) hK
    replace ax:=zR ax dj (by decide) hK
    replace aV:=zR aV dj (by decide) hK
    replace ab:=zM ab (fun _ hk=>fun e_=>hk (by rw [e_];rfl)) hK
    replace ae:=zRm ae dj (by decide) hK (fun _ _=>trivial)
    replace af:=zb af (zn ac af (by decide)) hK
    replace ai:=zb ai (zn ac ai (by decide)) hK
    replace aj:=zb aj (zn ac aj (by decide)) hK
    replace ac:Aside0 (Kd.R k35 35 hD w.heap.size (fun k_=>some k_≠(u382000:Value).ownBlock) (.slice (some ⟨bb,0,none⟩) az.length eQ) pV):=by rw [hW];exact hV
    replace HB:=zB HB ko hK
    clear hW hK
    have jz:0≤((aD):Int):=od
    have jL:((aD):Int) < ((bj.length:Int):Int):=od
    obtain ⟨cH,dr,ij,iq,lY,wq,kw⟩:=Kd.R_form aV.out (by omega)
    (first | cases ij | (injection ij with ea_ en_ ec_;(fail);subst ec_;clear en_))
    have kp:=Aside0.mk iq
    clear iq lY kw
    obtain ⟨ru,qR⟩:=Kd.R_celln false aV.out ((aD):Int) jz jL
    replace jz:=eq_true jz
    replace jL:=eq_true jL
    obtain ⟨vd,vg⟩:=Kd.R_celln false aV.out ((aD):Int) od od
    have eA:=Kd.R_putg aV.out ((aD):Int) false
    try go_wp2_with (((with_reducible refine gate_store (t:=4) (p:=224) rfl ?_);refine store_event (t:=4) (p:=224) (v:=?ke) (w1:=(hD.setCell ⟨cH,((aD):Int).toNat,none⟩ (.bool false))) ?hg ?ho ?hn ?hr ?_;(case ho=>rfl);(case hg=>rfl);(case hn=>rfl);(case hr=>(go_simp;done));intro jX hw;have hg:hD.grownBy jX (some cH):=(by rw [hw];exact eA.2);have hp_:Kd.R Kd.bool 4 jX w.heap.size (fun k_=>some k_≠(.slice (some eE) bv.length ib:Value).ownBlock∧some k_≠(cl:Value).ownBlock) (.slice (some ⟨cH,0,none⟩) bj.length dr) pW:=(by rw [hw,kM.out];exact eA.1);clear eA;replace ao:=Aside0.mk (Kd.R_after (v:=(.slice (some ⟨cH,0,none⟩) bj.length dr)) (v1:=(.slice (some ⟨cH,0,none⟩) bj.length dr)) (ok:=(fun k_=>some k_≠(cl:Value).ownBlock)) ao.out hg (.inl rfl));replace ax:=Aside0.mk (Kd.R_after (v:=(.slice (some ⟨cH,0,none⟩) bj.length dr)) (v1:=(.slice (some ⟨cH,0,none⟩) bj.length dr)) (ok:=(fun k_=>some k_≠(.slice (some eE) bv.length ib:Value).ownBlock)) ax.out hg (.inl rfl));replace ab:=qo ab aV (by decide) hg;replace ac:=qo ac aV (by decide) hg;replace ae:=qo ae aV (by decide) hg;replace af:=qg af hg aV (by decide);replace ai:=qg ai hg aV (by decide);replace aj:=qg aj hg aV (by decide);replace aV:=Aside0.mk hp_;replace HB:=Aside0.mk ((by rw [hw];exact b_st (HB.out) kp.out:Below w.heap.size w jX));clear hg hw hp_))
    go_roundg k5
    case measure=>have:=bz.out;have:=ct.out;have:=cC.out;have:=cL.out;have:=hM.out;omega
    case rel=>exact ⟨(pW),(wrap64 ((aD)+1)),(aY),(pV),(u382000),(.slice (some ⟨bb,0,none⟩) az.length eQ),rfl,H',⟨by have:=bz.out;have:=ct.out;have:=cC.out;have:=cL.out;have:=hM.out;omega⟩,ao,ax,aV,ab,ac,ae,af,ai,aj,HB⟩
   rw [if_neg eM] at H
   obtain ⟨iS,iT⟩:=cBf eM
   have H':=Aside0.mk H
   clear H
   have tU:=ar.out
   have uP:=au.out
   have tV:=ap.out
   have uQ:=aw.out
   refine qc3 af fun ny nz nA pn po pp=>?_
   obtain ⟨aT,dw,jD,jP,da,db,dc,dd,de⟩:=rd35 bg HB aq
   cases dw
   obtain ⟨dl,eR,pD,pE,eh,ei,ej,ek,el⟩:=rd35 bg HB (aD)
   obtain rfl:aT=dl:=(by injection eR)
   go_wp2
   go_roundg k5
   case measure=>have:=bz.out;have:=ct.out;have:=cC.out;have:=cL.out;have:=hM.out;omega
   case rel=>exact ⟨(bj),(aD),(aY),(az),(u382000),(u382001),rfl,H',⟨by have:=bz.out;have:=ct.out;have:=cC.out;have:=cL.out;have:=hM.out;omega⟩,ao,ax,aV,ab,ac,ae,af,ai,aj,HB⟩
  rw [if_neg eL] at H
  obtain ⟨iQ,iR⟩:=cBf eL
  have H':=Aside0.mk H
  clear H
  have tW:=ar.out
  have uR:=au.out
  have tX:=ap.out
  have uS:=aw.out
  refine qc3 af fun nB nC nD pq pr ps=>?_
  obtain ⟨aT,dw,jD,jP,da,db,dc,dd,de⟩:=rd35 bg HB aq
  cases dw
  go_wp2
  go_roundg k5
  case measure=>have:=bz.out;have:=ct.out;have:=cC.out;have:=cL.out;have:=hM.out;omega
  case rel=>exact ⟨(bj),(wrap64 (aq+1)),(aY),(az),(u382000),(u382001),rfl,H',⟨by have:=bz.out;have:=ct.out;have:=cC.out;have:=cL.out;have:=hM.out;omega⟩,ao,ax,aV,ab,ac,ae,af,ai,aj,HB⟩
 rw [if_neg eo] at H
 have eK:=decide_eq_false eo
 clear eo
 replace H:=Option.bind_eq_some_iff.mp H
 obtain ⟨⟨dE,er,fG⟩,hG,H⟩:=H
 try dsimp only at H
 have rY:=Aside0.mk hG
 clear hG
 simp only [Option.some.injEq,Prod.mk.injEq] at H
 obtain ⟨rfl,rfl,rfl⟩:=H
 have tY:=ar.out
 have uT:=au.out
 have tZ:=ap.out
 have uU:=aw.out
 refine qc3 af fun nE nF nG pt pu pv=>?_
 have ua:=cM.out
 have uV:=bm.out
 refine qc3 aj fun nH nI nJ pw px py=>?_
 obtain ⟨kg,ls,lC⟩:=Kd.R_slice ab.out
 subst lC
 obtain ⟨kh,lt,lD⟩:=Kd.R_slice ac.out
 subst lD
 obtain ⟨ki,lu,lE⟩:=Kd.R_slice ax.out
 subst lE
 obtain ⟨kj,lv,lF⟩:=Kd.R_slice aV.out
 subst lF
 go_wp2_with (first | ((with_reducible refine gate_callee (f:=41) rfl ?_);refine goesL_ (some 230) rfl rfl Try.func41 (by kernel_rfl) rfl #[.agg #[.slice kg aY.length ls,.slice kh az.length lt,.slice bk aW.length bl],.slice ki bd.length lu,.slice kj bj.length lv] rfl (by (try simp only [List.map_toArray,List.map_cons,List.map_nil]);(rfl)) ?_;(with_reducible refine (rfwithout.calls k5 _ _ aY _ _ az _ _ aW _ _ bd _ _ bj dE er fG _ ?cP ?cQ ?cR ?cS ?cT ?cU ?rS ?rT ?rU ?pX rY.out).mono ?_);(case cP=>exact (Kd.R_reads' ab.out).2.2);(case cQ=>exact (Kd.R_reads' ab.out).2.1);(case cR=>exact (Kd.R_reads' ac.out).2.2);(case cS=>exact (Kd.R_reads' ac.out).2.1);(case cT=>exact (Kd.R_reads' ae.out).2.2);(case cU=>exact (Kd.R_reads' ae.out).2.1);(case rS=>exact (Kd.R_reads' ax.out).2.2);(case rT=>exact (Kd.R_reads' ax.out).2.1);(case rU=>exact (Kd.R_reads' aV.out).2.2);(case pX=>exact (Kd.R_reads' aV.out).2.1);rintro e xS ⟨xJ,xK,xL,rfl,cI,fI,gV,hb⟩;refine ⟨_,rfl,?_⟩;replace ao:=qB ao hb;replace ax:=qB ax hb;replace aV:=qB aV hb;have hQ:=ql (qw (qw cI ab) ac) HB;have hR:=ql (qw (qw fI ab) ac) HB;replace ab:=qt ab hb cI fI;replace ac:=qt ac hb cI fI;have hS:=ql (qw gV ae) HB;replace ae:=qe ae gV hb;replace af:=qb af hb;replace ai:=qb ai hb;replace aj:=qb aj hb;replace HB:=qs HB hb;(try clear hb);(try clear cI);(try clear fI);(try clear gV);obtain ⟨cK,cO,lG⟩:=Kd.R_slice hQ.out;subst lG;refine qc3 ai fun nK nL nM pz pB pC=>?_;obtain ⟨dg,dt,lH⟩:=Kd.R_slice hR.out;subst lH;obtain ⟨dF,dK,lI⟩:=Kd.R_slice hS.out;subst lI))
 refine bodyPost_ret (results_cell_row rfl _ _ aJ 30 #[.slice cK dE.length cO,.slice dg er.length dt,.slice dF fG.length dK] (0,0) _ rfl (by refine blk_put (cs:=#[.slice cK dE.length cO,.slice dg er.length dt,.slice none 0 0]) ?_ 2 _ rfl;refine blk_put (cs:=#[.slice cK dE.length cO,.slice none 0 0,.slice none 0 0]) ?_ 1 _ rfl;refine blk_put (cs:=#[.slice none 0 0,.slice none 0 0,.slice none 0 0]) ?_ 0 _ rfl;exact ai.out) Try.underlying30 rfl (by kernel_rfl)) rfl ?_
 exact ⟨_,_,_,by (rfl),by exact Kd.R_mono (Kd.R_far (p:=⟨aJ,2,none⟩) (Kd.R_far (p:=⟨aJ,1,none⟩) (Kd.R_far (p:=⟨aJ,0,none⟩) (Kd.R_types hQ.out ai.out (by decide)) (fun _ hk=>hk.2) (.slice cK dE.length cO)) (fun _ hk=>hk.2) (.slice dg er.length dt)) (fun _ hk=>hk.2) (.slice dF fG.length dK)) (fun _ hk=>hk.1.1.1),by exact Kd.R_mono (Kd.R_far (p:=⟨aJ,2,none⟩) (Kd.R_far (p:=⟨aJ,1,none⟩) (Kd.R_far (p:=⟨aJ,0,none⟩) (Kd.R_types hR.out ai.out (by decide)) (fun _ hk=>hk.2) (.slice cK dE.length cO)) (fun _ hk=>hk.2) (.slice dg er.length dt)) (fun _ hk=>hk.2) (.slice dF fG.length dK)) (fun _ hk=>hk.1.1.1),by exact Kd.R_mono (Kd.R_far (p:=⟨aJ,2,none⟩) (Kd.R_far (p:=⟨aJ,1,none⟩) (Kd.R_far (p:=⟨aJ,0,none⟩) (Kd.R_types hS.out ai.out (by decide)) (fun _ hk=>hk.2) (.slice cK dE.length cO)) (fun _ hk=>hk.2) (.slice dg er.length dt)) (fun _ hk=>hk.2) (.slice dF fG.length dK)) (fun _ hk=>trivial),by repeat ((with_reducible first | exact HB.out | refine b_st ?_ et.out))⟩
end Go.Proofs.Ytedghbjmhcgilaa.POpt
end
