import Derived.Test.YtedghbjmhcgilaaKp5
import Derived.Test.YtedghbjmhcgilaaKp8
set_option linter.unusedVariables false
set_option linter.unusedSimpArgs false
section
namespace Go.Proofs.Ytedghbjmhcgilaa.POpt
open Go.RowKit Go.Proofs.YtedghbjmhcgilaaW.PrintWords Go.Proofs.YtedghbjmhcgilaaW.PrintLast Go.Proofs.YtedghbjmhcgilaaW.PrintMore
theorem setCell_again (w:World) (a:Addr) (u v:Value):(w.setCell a u).setCell a v=w.setCell a v:=by
  unfold World.setCell
  congr 1
  apply Array.ext_getElem?
  intro i
  simp only [Array.getElem?_modify]
  split
  · cases w.heap[i]? with
    | none=>rfl
    | some o=>cases o <;> simp <;> split <;> simp
  · rfl
attribute [local go_sem] setCell_again
mutual
def rfTrim.l0:Nat→List Bool→Bool→Int→List (S35)→List (S35)→List (S37)→Option ((List (S35)) × (List (S35)) × (List (S37)))
  | 0,_,_,_,_,_,_=>none
  | k+1,x3,x4,x5,x465000,x465001,x465002=>if x5 < (x465000.length:Int) then (if 0≤x5 then (if x5 < (x3.length:Int) then (if rdOf false x3 x5=true then (if ((rdQ x465000 x5).f0)=2 then (if 0≤(wrap64 (x5+1)) then (if (wrap64 (x5+1)) < (x3.length:Int) then (if 0≤((rdQ x465000 x5).f2) then (if ((rdQ x465000 x5).f2) < (x3.length:Int) then (rfTrim.l0 k ((x3.set ((wrap64 (x5+1)):Int).toNat true).set (((rdQ x465000 x5).f2):Int).toNat true) x4 (wrap64 (x5+1)) x465000 x465001 x465002) else (none)) else (none)) else (none)) else (none)) else (if ((rdQ x465000 x5).f0)=3 then (if 0≤((rdQ x465000 x5).f1) then (if ((rdQ x465000 x5).f1) < (x3.length:Int) then (rfTrim.l1 k (x3.set (((rdQ x465000 x5).f1):Int).toNat true) true x5 0 x465000 x465001 x465002) else (none)) else (none)) else (if ((rdQ x465000 x5).f0)=4 then (if 0≤((rdQ x465000 x5).f1) then (if ((rdQ x465000 x5).f1) < (x3.length:Int) then (rfTrim.l0 k (x3.set (((rdQ x465000 x5).f1):Int).toNat true) x4 (wrap64 (x5+1)) x465000 x465001 x465002) else (none)) else (none)) else (if 0≤(wrap64 (x5+1)) then (if (wrap64 (x5+1)) < (x3.length:Int) then (rfTrim.l0 k (x3.set ((wrap64 (x5+1)):Int).toNat true) x4 (wrap64 (x5+1)) x465000 x465001 x465002) else (none)) else (none))))) else (rfTrim.l0 k x3 x4 (wrap64 (x5+1)) x465000 x465001 x465002)) else (none)) else (none)) else (if 0≤(wrap64 ((x465001.length:Int)+1)) then (if (wrap64 ((x465001.length:Int)+1):Int).toNat≤281474976710656 then ((some (List.replicate (wrap64 ((x465001.length:Int)+1):Int).toNat false:List Bool)).bind fun y490=>(if 0 < (y490.length:Int) then (rfTrim.l2 k x3 x4 (y490.set (0:Int).toNat true) 0 x465000 x465001 x465002) else (none))) else (none)) else (none))
def rfTrim.l1:Nat→List Bool→Bool→Int→Int→List (S35)→List (S35)→List (S37)→Option ((List (S35)) × (List (S35)) × (List (S37)))
  | 0,_,_,_,_,_,_,_=>none
  | k+1,x3,x4,x5,x7,x465000,x465001,x465002=>if x7 < (x465002.length:Int) then (if 0≤x7 then (if 0≤((rdR x465002 x7).f1) then (if ((rdR x465002 x7).f1) < (x3.length:Int) then (rfTrim.l1 k (x3.set (((rdR x465002 x7).f1):Int).toNat true) x4 x5 (wrap64 (x7+1)) x465000 x465001 x465002) else (none)) else (none)) else (none)) else (rfTrim.l0 k x3 x4 (wrap64 (x5+1)) x465000 x465001 x465002)
def rfTrim.l2:Nat→List Bool→Bool→List Bool→Int→List (S35)→List (S35)→List (S37)→Option ((List (S35)) × (List (S35)) × (List (S37)))
  | 0,_,_,_,_,_,_,_=>none
  | k+1,x3,x4,x8,x9,x465000,x465001,x465002=>if x9 < (x465001.length:Int) then (if 0≤x9 then (if x9 < (x8.length:Int) then (if rdOf false x8 x9=true then (rfTrim.j3 k x3 x4 x8 x9 (((rdQ x465001 x9).f0) == 24) x465000 x465001 x465002) else (rfTrim.j3 k x3 x4 x8 x9 true x465000 x465001 x465002)) else (none)) else (none)) else ((rfwithout.f k x465000 x465001 x465002 x3 x8).bind fun bt494=>(if x4=true then (some (bt494.1,bt494.2.1,bt494.2.2)) else (some (bt494.1,bt494.2.1,([]:List (S37))))))
def rfTrim.j3:Nat→List Bool→Bool→List Bool→Int→Bool→List (S35)→List (S35)→List (S37)→Option ((List (S35)) × (List (S35)) × (List (S37)))
  | 0,_,_,_,_,_,_,_,_=>none
  | k+1,x3,x4,x8,x9,x109,x465000,x465001,x465002=>if x109=true then (rfTrim.l2 k x3 x4 x8 (wrap64 (x9+1)) x465000 x465001 x465002) else (if 0≤(wrap64 (x9+1)) then (if (wrap64 (x9+1)) < (x8.length:Int) then ((some (x8.set ((wrap64 (x9+1)):Int).toNat true:List Bool)).bind fun y506=>(if 0≤x9 then (if x9 < (x465001.length:Int) then (if ((rdQ x465001 x9).f0)=16 then (if 0≤((rdQ x465001 x9).f2) then (if ((rdQ x465001 x9).f2) < (x8.length:Int) then (rfTrim.l2 k x3 x4 (y506.set (((rdQ x465001 x9).f2):Int).toNat true) (wrap64 (x9+1)) x465000 x465001 x465002) else (none)) else (none)) else (rfTrim.l2 k x3 x4 y506 (wrap64 (x9+1)) x465000 x465001 x465002)) else (none)) else (none))) else (none)) else (none))
end
def rfTrim.f (k:Nat) (l0_0:List (S35)) (l0_1:List (S35)) (l0_2:List (S37)):Option ((List (S35)) × (List (S35)) × (List (S37))):=(rfisEnum.f l0_0 l0_1 l0_2).bind fun t466=>(if t466=true then ((rfcopied.f l0_0 l0_1 l0_2).bind fun bt467=>(some (bt467.1,bt467.2.1,bt467.2.2))) else (if 0≤(wrap64 ((l0_0.length:Int)+1)) then (if (wrap64 ((l0_0.length:Int)+1):Int).toNat≤281474976710656 then ((some (List.replicate (wrap64 ((l0_0.length:Int)+1):Int).toNat false:List Bool)).bind fun y476=>(if 0 < (y476.length:Int) then (rfTrim.l0 k (y476.set (0:Int).toNat true) false 0 l0_0 l0_1 l0_2) else (none))) else (none)) else (none)))
theorem rfTrim.mono_l:∀ k,(∀ y0 y1 y2 y3 y4 y5,LeO (rfTrim.l0 k y0 y1 y2 y3 y4 y5) (rfTrim.l0 (k+1) y0 y1 y2 y3 y4 y5))∧(∀ y0 y1 y2 y3 y4 y5 y6,LeO (rfTrim.l1 k y0 y1 y2 y3 y4 y5 y6) (rfTrim.l1 (k+1) y0 y1 y2 y3 y4 y5 y6))∧(∀ y0 y1 y2 y3 y4 y5 y6,LeO (rfTrim.l2 k y0 y1 y2 y3 y4 y5 y6) (rfTrim.l2 (k+1) y0 y1 y2 y3 y4 y5 y6))∧(∀ y0 y1 y2 y3 y4 y5 y6 y7,LeO (rfTrim.j3 k y0 y1 y2 y3 y4 y5 y6 y7) (rfTrim.j3 (k+1) y0 y1 y2 y3 y4 y5 y6 y7))
  | 0=>⟨fun _ _ _ _ _ _ r h=>by simp [rfTrim.l0] at h,fun _ _ _ _ _ _ _ r h=>by simp [rfTrim.l1] at h,fun _ _ _ _ _ _ _ r h=>by simp [rfTrim.l2] at h,fun _ _ _ _ _ _ _ _ r h=>by simp [rfTrim.j3] at h⟩
  | k+1=>by
    obtain ⟨ih0,ih1,ih2,ih3⟩:=rfTrim.mono_l k
    refine ⟨?_,?_,?_,?_⟩
    · intro y0 y1 y2 y3 y4 y5
      unfold rfTrim.l0
      repeat' first | (with_reducible exact ih0 _ _ _ _ _ _) | (with_reducible exact ih1 _ _ _ _ _ _ _) | (with_reducible exact ih2 _ _ _ _ _ _ _) | (with_reducible exact LeO.refl _) | (with_reducible refine LeO.ite ?_ ?_) | (with_reducible refine LeO.bind ?_ (fun _=>?_))
    · intro y0 y1 y2 y3 y4 y5 y6
      unfold rfTrim.l1
      repeat' first | (with_reducible exact ih0 _ _ _ _ _ _) | (with_reducible exact ih1 _ _ _ _ _ _ _) | (with_reducible exact LeO.refl _) | (with_reducible refine LeO.ite ?_ ?_)
    · intro y0 y1 y2 y3 y4 y5 y6
      unfold rfTrim.l2
      repeat' first | (with_reducible exact ih3 _ _ _ _ _ _ _ _) | (with_reducible exact rfwithout.mono _ _ _ _ _ _) | (with_reducible exact LeO.refl _) | (with_reducible refine LeO.ite ?_ ?_) | (with_reducible refine LeO.bind ?_ (fun _=>?_))
    · intro y0 y1 y2 y3 y4 y5 y6 y7
      unfold rfTrim.j3
      repeat' first | (with_reducible exact ih2 _ _ _ _ _ _ _) | (with_reducible exact LeO.refl _) | (with_reducible refine LeO.ite ?_ ?_) | (with_reducible refine LeO.bind ?_ (fun _=>?_))
theorem rfTrim.mono:∀ a0 a1 a2 k,LeO (rfTrim.f k a0 a1 a2) (rfTrim.f (k+1) a0 a1 a2):=by
  intro a0 a1 a2 k
  obtain ⟨ih0,ih1,ih2,ih3⟩:=rfTrim.mono_l k
  unfold rfTrim.f
  repeat' first | (with_reducible exact ih0 _ _ _ _ _ _) | (with_reducible exact LeO.refl _) | (with_reducible refine LeO.ite ?_ ?_) | (with_reducible refine LeO.bind ?_ (fun _=>?_))
set_option maxHeartbeats 8000000 in
set_option maxRecDepth 100000 in
theorem rfTrim.calls (k:Nat) (bj:Option Addr) (aL:Nat) (ab:List (S35)) (aI:Option Addr) (aM:Nat) (an:List (S35)) (aJ:Option Addr) (aN:Nat) (aq:List (S37)) (r1:List (S35)) (r2:List (S35)) (r3:List (S37)) (w:World) (eN:Kd.C k35 w bj ab.length ab) (eF:ab.length≤aL) (eO:Kd.C k35 w aI an.length an) (eG:an.length≤aM) (eP:Kd.C k37 w aJ aq.length aq) (eH:aq.length≤aN) (h:rfTrim.f k ab an aq=some (r1,r2,r3)) :
    Calls Try.prog 18 #[.agg #[.slice bj ab.length aL,.slice aI an.length aM,.slice aJ aq.length aN]] w fun e w'=>∃ mH mJ nW:Value,e=.returned (.agg #[mH,mJ,nW])∧Kd.R k35 35 w' w.heap.size (fun k_=>some k_≠(mJ:Value).ownBlock) mH r1∧Kd.R k35 35 w' w.heap.size (fun k_=>some k_≠(mH:Value).ownBlock) mJ r2∧Kd.R k37 37 w' w.heap.size (fun _=>True) nW r3∧Below w.heap.size w w':=by
 have oc:=Try.underlying30
 have oe:=Try.underlying35
 have aS:=Aside0.mk eN
 have bO:=Aside0.mk eF
 clear eN eF
 have aT:=Aside0.mk eO
 have bP:=Aside0.mk eG
 clear eO eG
 have bB:=Aside0.mk eP
 have bQ:=Aside0.mk eH
 clear eP eH
 have HB:=Aside0.mk (Below.refl w.heap.size w)
 have H:((rfisEnum.f ab an aq).bind fun fr=>(if fr=true then ((rfcopied.f ab an aq).bind fun cz=>(some (cz.1,cz.2.1,cz.2.2))) else (if 0≤(wrap64 ((ab.length:Int)+1)) then (if (wrap64 ((ab.length:Int)+1):Int).toNat≤281474976710656 then ((some (List.replicate (wrap64 ((ab.length:Int)+1):Int).toNat false:List Bool)).bind fun bv=>(if 0 < (bv.length:Int) then (rfTrim.l0 k (bv.set (0:Int).toNat true) false 0 ab an aq) else (none))) else (none)) else (none))))=some (r1,r2,r3):=h
 clear h
 replace H:=Option.bind_eq_some_iff.mp H
 obtain ⟨fr,mT,H⟩:=H
 try dsimp only at H
 have A2:=Aside0.mk mT
 clear mT
 by_cases c3:fr=true
 ·subst c3
  replace H:=iP H
  replace H:=Option.bind_eq_some_iff.mp H
  obtain ⟨⟨bZ,cl,dl⟩,mU,H⟩:=H
  try dsimp only at H
  have A4:=Aside0.mk mU
  clear mU
  simp only [Option.some.injEq,Prod.mk.injEq] at H
  obtain ⟨rfl,rfl,rfl⟩:=H
  go_enter Try.func18,Try.ntmps18
  go_wp2_with (first | ((with_reducible refine gate_dst (N:=1) rfl ?_);refine box_event ?hg (N:=1) ?hd (cs:=#[.slice bj ab.length aL,.slice aI an.length aM,.slice aJ aq.length aN]) (t:=30) ?hr ?_;(case hd=>rfl);(case hg=>rfl);(case hr=>(go_simp;done));intro aW hg w5 hbox hb;have aa:=Aside0.mk hbox;have fK:=qz HB hg;have fJ:=qz HB hg;replace HB:=qs HB hb;clear hb hbox hg)|((with_reducible refine gate_dst (N:=2) rfl ?_);refine box_event ?hg (N:=2) ?hd (cs:=#[.slice none 0 0,.slice none 0 0,.slice none 0 0]) (t:=30) ?hr ?_;(case hd=>rfl);(case hg=>rfl);(case hr=>(go_simp;done));intro am hg w6 hbox hb;have ac:=Aside0.mk hbox;have fL:=qz HB hg;have cd:=qz HB hg;replace HB:=qs HB hb;have aj:=qn aa hg;have ak:=qN aa hg;replace aa:=qb aa hb;clear hb hbox hg;have oa:=aj.out;have ob:=ak.out;refine qc3 aa fun ls lt lu lA lB lC=>?_)|((with_reducible refine gate_callee (f:=39) rfl ?_);refine goesL_ (some 12) rfl rfl Try.func39 (by kernel_rfl) rfl #[.agg #[.slice bj ab.length aL,.slice aI an.length aM,.slice aJ aq.length aN]] rfl (by (try simp only [List.map_toArray,List.map_cons,List.map_nil]);(rfl)) ?_;(with_reducible refine (rfisEnum.calls _ _ ab _ _ an _ _ aq true _ ?bD ?bE ?bF ?bG ?bH ?bI A2.out).mono ?_);(case bD=>exact (Kd.C_below aS.out HB.out));(case bE=>exact bO.out);(case bF=>exact (Kd.C_below aT.out HB.out));(case bG=>exact bP.out);(case bH=>exact (Kd.C_below bB.out HB.out));(case bI=>exact bQ.out);rintro e w9 ⟨rfl,hb⟩;refine ⟨_,rfl,?_⟩;replace aa:=qb aa hb;replace ac:=qb ac hb;replace HB:=qs HB hb;(try clear hb);refine qc3 aa fun iW iX iY jP jQ jR=>?_)|((with_reducible refine gate_callee (f:=37) rfl ?_);refine goesL_ (some 14) rfl rfl Try.func37 (by kernel_rfl) rfl #[.agg #[.slice bj ab.length aL,.slice aI an.length aM,.slice aJ aq.length aN]] rfl (by (try simp only [List.map_toArray,List.map_cons,List.map_nil]);(rfl)) ?_;(with_reducible refine (rfcopied.calls _ _ ab _ _ an _ _ aq bZ cl dl _ ?bD ?bE ?bF ?bG ?bH ?bI A4.out).mono ?_);(case bD=>exact (Kd.C_below aS.out HB.out));(case bE=>exact bO.out);(case bF=>exact (Kd.C_below aT.out HB.out));(case bG=>exact bP.out);(case bH=>exact (Kd.C_below bB.out HB.out));(case bI=>exact bQ.out);rintro e oz ⟨om,on,oo,rfl,eK,eL,eM,hb⟩;refine ⟨_,rfl,?_⟩;have eu:=ql eK HB;have ev:=ql eL HB;have ew:=ql eM HB;replace aa:=qb aa hb;replace ac:=qb ac hb;replace HB:=qs HB hb;(try clear hb);(try clear eK);(try clear eL);(try clear eM);obtain ⟨ch,ck,lo⟩:=Kd.R_slice eu.out;subst lo;refine qc3 ac fun iZ ja jb jS jT jU=>?_;obtain ⟨cn,cD,lp⟩:=Kd.R_slice ev.out;subst lp;obtain ⟨dp,dt,lq⟩:=Kd.R_slice ew.out;subst lq))
  refine bodyPost_ret (results_cell_row rfl _ _ am 30 #[.slice ch bZ.length ck,.slice cn cl.length cD,.slice dp dl.length dt] (0,0) _ rfl (by refine blk_put (cs:=#[.slice ch bZ.length ck,.slice cn cl.length cD,.slice none 0 0]) ?_ 2 _ rfl;refine blk_put (cs:=#[.slice ch bZ.length ck,.slice none 0 0,.slice none 0 0]) ?_ 1 _ rfl;refine blk_put (cs:=#[.slice none 0 0,.slice none 0 0,.slice none 0 0]) ?_ 0 _ rfl;exact ac.out) Try.underlying30 rfl (by kernel_rfl)) rfl ?_
  exact ⟨_,_,_,by (rfl),by exact Kd.R_mono (Kd.R_far (p:=⟨am,2,none⟩) (Kd.R_far (p:=⟨am,1,none⟩) (Kd.R_far (p:=⟨am,0,none⟩) (Kd.R_types eu.out ac.out (by decide)) (fun _ hk=>hk.2) (.slice ch bZ.length ck)) (fun _ hk=>hk.2) (.slice cn cl.length cD)) (fun _ hk=>hk.2) (.slice dp dl.length dt)) (fun _ hk=>hk.1),by exact Kd.R_mono (Kd.R_far (p:=⟨am,2,none⟩) (Kd.R_far (p:=⟨am,1,none⟩) (Kd.R_far (p:=⟨am,0,none⟩) (Kd.R_types ev.out ac.out (by decide)) (fun _ hk=>hk.2) (.slice ch bZ.length ck)) (fun _ hk=>hk.2) (.slice cn cl.length cD)) (fun _ hk=>hk.2) (.slice dp dl.length dt)) (fun _ hk=>hk.1),by exact Kd.R_mono (Kd.R_far (p:=⟨am,2,none⟩) (Kd.R_far (p:=⟨am,1,none⟩) (Kd.R_far (p:=⟨am,0,none⟩) (Kd.R_types ew.out ac.out (by decide)) (fun _ hk=>hk.2) (.slice ch bZ.length ck)) (fun _ hk=>hk.2) (.slice cn cl.length cD)) (fun _ hk=>hk.2) (.slice dp dl.length dt)) (fun _ hk=>trivial),by repeat ((with_reducible first | exact HB.out | refine b_st ?_ cd.out))⟩
 replace c3:=Bool.eq_false_iff.mpr c3
 subst c3
 replace H:=iF H
 obtain ⟨en,cU⟩:∃ j_:Int,(wrap64 ((ab.length:Int)+1))=j_:=⟨_,rfl⟩
 rw [cU] at H
 (try rw [cU] at A2)
 have lD:(IntKind.i64.wrap ((ab.length:Int)+1))=en:=(i64_w _).trans cU
 replace H:=iNB H
 obtain ⟨gd,ge,H⟩:=H
 replace H:=iNB H
 obtain ⟨gf,gg,H⟩:=H
 obtain ⟨bv,cW⟩:∃ y_:List Bool,y_=(List.replicate (en:Int).toNat false):=⟨_,rfl⟩
 replace H:(if 0 < (bv.length:Int) then (rfTrim.l0 k (bv.set (0:Int).toNat true) false 0 ab an aq) else (none))=some (r1,r2,r3):=by (have fN:=(Option.bind_some _ _).symm.trans H;rw [cW];with_reducible exact fN)
 have fP:=Aside0.mk cW
 clear cW
 replace H:=iN H
 obtain ⟨mZ,H⟩:=H
 have gh:=decide_eq_true mZ
 have gi:decide (0 < bv.length)=true:=decide_eq_true (by omega)
 clear mZ
 obtain ⟨iA,cX⟩:∃ y_:List Bool,y_=(bv.set (0:Int).toNat true):=⟨_,rfl⟩
 rw [← cX] at H
 have fQ:=Aside0.mk cX
 clear cX
 have H':=Aside0.mk H
 clear H
 go_enter Try.func18,Try.ntmps18
 go_wp2_with (first | ((with_reducible refine gate_dst (N:=1) rfl ?_);refine box_event ?hg (N:=1) ?hd (cs:=#[.slice bj ab.length aL,.slice aI an.length aM,.slice aJ aq.length aN]) (t:=30) ?hr ?_;(case hd=>rfl);(case hg=>rfl);(case hr=>(go_simp;done));intro aW hg oA hbox hb;have aa:=Aside0.mk hbox;have fK:=qz HB hg;have fJ:=qz HB hg;replace HB:=qs HB hb;clear hb hbox hg)|((with_reducible refine gate_dst (N:=2) rfl ?_);refine box_event ?hg (N:=2) ?hd (cs:=#[.slice none 0 0,.slice none 0 0,.slice none 0 0]) (t:=30) ?hr ?_;(case hd=>rfl);(case hg=>rfl);(case hr=>(go_simp;done));intro am hg oB hbox hb;have ac:=Aside0.mk hbox;have fL:=qz HB hg;have cd:=qz HB hg;replace HB:=qs HB hb;have aj:=qn aa hg;have ak:=qN aa hg;replace aa:=qb aa hb;clear hb hbox hg;have nm:=aj.out;have nA:=ak.out;refine qc3 aa fun du dv dw dO dP dQ=>?_)|((with_reducible refine gate_callee (f:=39) rfl ?_);refine goesL_ (some 12) rfl rfl Try.func39 (by kernel_rfl) rfl #[.agg #[.slice bj ab.length aL,.slice aI an.length aM,.slice aJ aq.length aN]] rfl (by (try simp only [List.map_toArray,List.map_cons,List.map_nil]);(rfl)) ?_;(with_reducible refine (rfisEnum.calls _ _ ab _ _ an _ _ aq false _ ?bD ?bE ?bF ?bG ?bH ?bI A2.out).mono ?_);(case bD=>exact (Kd.C_below aS.out HB.out));(case bE=>exact bO.out);(case bF=>exact (Kd.C_below aT.out HB.out));(case bG=>exact bP.out);(case bH=>exact (Kd.C_below bB.out HB.out));(case bI=>exact bQ.out);rintro e oC ⟨rfl,hb⟩;refine ⟨_,rfl,?_⟩;replace aa:=qb aa hb;replace ac:=qb ac hb;replace HB:=qs HB hb;(try clear hb);refine qc3 aa fun dx dy dz dR dS dT=>?_)|((with_reducible refine gate_dst (N:=19) rfl ?_);refine Kd.R_make Kd.bool _ 4 rfl (N:=19) rfl 55 _ _ rfl en rfl rfl Try.underlying55 (.bool false) 1 info4 rfl (by decide) (by omega) false (ok:=fun _=>True) (okp:=fun _=>True) rfl (fun _ hk=>hk) trivial od (Nat.le_trans (Nat.mul_le_mul_right _ (od:en.toNat≤281474976710656)) (by omega)) (Below.refl _ _) (Nat.le_refl _) ?_;intro op nX fl hb hg_ hnew_;clear hg_ hnew_;(rw [← fP.out] at fl);have bf:=ql fl HB;replace aa:=qb aa hb;replace ac:=qb ac hb;replace HB:=qs HB hb;clear hb fl;have kX:0≤(0:Int):=(by omega);have kZ:(0:Int) < ((bv.length:Int):Int):=od;have mG:(0 < bv.length)=True:=eq_true (by omega);obtain ⟨ap,aF,gA,gB,lr,nZ,fO⟩:=Kd.R_form bf.out (by omega);(first | cases gA | (injection gA with ea_ en_ ec_;(fail);subst ec_;clear en_));have bT:=Aside0.mk gB;have nY:=Aside0.mk fO;clear gB lr fO;obtain ⟨bW,cL⟩:=Kd.R_celln false bf.out (0:Int) kX kZ;(try rw [show ((0:Int)).toNat=0 from rfl] at bW);(try simp only [Nat.reduceMul,Nat.zero_mul,Nat.zero_add,Nat.reduceAdd] at bW);(try rw [show ((0:Int)).toNat=0 from rfl] at cL);(try simp only [Nat.reduceMul,Nat.zero_mul,Nat.zero_add,Nat.reduceAdd] at cL);replace kX:=eq_true kX;replace kZ:=eq_true kZ;obtain ⟨eQ,eR⟩:=Kd.R_celln false bf.out (0:Int) (by omega) od;(try simp only [Int.reduceToNat,Int.toNat_zero,Int.toNat_ofNat,Nat.reduceMul,Nat.zero_mul,Nat.zero_add] at eQ eR);(try rw [show ((0:Int)).toNat=0 from rfl] at eQ);(try rw [show ((0:Int)).toNat=0 from rfl] at eR);have eV:=Kd.R_putg bf.out (0:Int) true)|((with_reducible refine gate_store (t:=4) (p:=21) rfl ?_);refine store_event (t:=4) (p:=21) (v:=?iK) (w1:=(nX.setCell ⟨ap,(0:Int).toNat,none⟩ (.bool true))) ?hg ?ho ?hn ?hr ?_;(case ho=>rfl);(case hg=>rfl);(case hn=>rfl);(case hr=>(go_simp;done));intro mO hw;have hg:nX.grownBy mO (some ap):=(by rw [hw];exact eV.2);have hp_:Kd.R Kd.bool 4 mO w.heap.size (fun _=>True) (.slice (some ⟨ap,0,none⟩) bv.length aF) iA:=(by rw [hw,fQ.out];exact eV.1);clear eV;replace aa:=qg aa hg bf (by decide);replace ac:=qg ac hg bf (by decide);replace bf:=Aside0.mk hp_;replace HB:=Aside0.mk ((by rw [hw];exact b_st (HB.out) bT.out:Below w.heap.size w mO));clear hg hw hp_))
 go_loopg [4,5] k (fun kq v4 v5 w'=>∃ (ao:List Bool) (bc:Bool) (ad:Int),v4=.bool bc∧v5=.int .i64 ad∧Aside0 (rfTrim.l0 kq ao bc ad ab an aq=some (r1,r2,r3))∧Aside0 (kq≤k)∧Aside0 (Kd.R Kd.bool 4 w' w.heap.size (fun _=>True) (.slice (some ⟨ap,0,none⟩) bv.length aF) ao)∧Aside0 (w'.heap[aW]?=some (.cells #[(.slice bj ab.length aL),(.slice aI an.length aM),(.slice aJ aq.length aN)] 30 (0,0)))∧Aside0 (w'.heap[am]?=some (.cells #[(.slice none 0 0),(.slice none 0 0),(.slice none 0 0)] 30 (0,0)))∧Aside0 (Below w.heap.size w w'))
 case atStart=>exact ⟨(iA),(false),(0),rfl,rfl,H',⟨Nat.le_refl _⟩,bf,aa,ac,HB⟩
 clear H'
 clear gd ge gf gg gh gi kX kZ mG du dv dw dx dy dz dO dP dQ dR dS dT bW
 obtain ⟨ao,bc,ad,rfl,rfl,HA,bA,ae,aa,ac,HB⟩:=hrel
 have ah:=(Kd.R_reads' ae.out).1
 rw [ah] at ae
 (try simp only [ah])
 (try simp only [ah] at aa)
 (try simp only [ah] at ac)
 obtain _ | k1:=gk
 ·exact absurd HA.out (by simp [rfTrim.l0])
 have H:=HA.out
 clear HA
 simp only [rfTrim.l0] at H
 by_cases fz:ad < (ab.length:Int)
 ·rw [if_pos fz] at H
  have cC:=decide_eq_true fz
  clear fz
  replace H:=iNd H
  obtain ⟨gj,H⟩:=H
  replace H:=iNd H
  obtain ⟨gl,H⟩:=H
  obtain ⟨lb,cE⟩:∃ b_:Bool,b_=(rdOf false ao ad):=⟨_,rfl⟩
  rw [← cE] at H
  have bR:=Aside0.mk cE
  clear cE
  by_cases iV:lb=true
  ·subst iV
   replace H:=iP H
   by_cases fA:((rdQ ab ad).f0)=2
   ·rw [if_pos fA] at H
    obtain ⟨ez,eA⟩:=cBt fA
    clear fA
    obtain ⟨bL,eI⟩:∃ j_:Int,(wrap64 (ad+1))=j_:=⟨_,rfl⟩
    rw [eI] at H
    have lE:(IntKind.i64.wrap (ad+1))=bL:=(i64_w _).trans eI
    replace H:=iNd H
    obtain ⟨na,H⟩:=H
    replace H:=iNd H
    obtain ⟨nb,H⟩:=H
    obtain ⟨iB,cY⟩:∃ y_:List Bool,y_=(ao.set ((bL):Int).toNat true):=⟨_,rfl⟩
    rw [← cY] at H
    have fR:=Aside0.mk cY
    clear cY
    replace H:=iNd H
    obtain ⟨nc,H⟩:=H
    replace H:=iNd H
    obtain ⟨nd,H⟩:=H
    obtain ⟨iC,cZ⟩:∃ y_:List Bool,y_=(iB.set (((rdQ ab ad).f2):Int).toNat true):=⟨_,rfl⟩
    rw [← cZ] at H
    have fS:=Aside0.mk cZ
    clear cZ
    have H':=Aside0.mk H
    clear H
    have nn:=aj.out
    have nB:=ak.out
    refine qc3 aa fun jc jd je jV jW jX=>?_
    obtain ⟨aU,bJ,dj,dk,av⟩:=rob ae ad
    (try rw [← bR.out] at av)
    obtain rfl:(⟨ap,0,none⟩:Addr)=aU:=(by injection bJ)
    (simp only [add_plain] at av)
    obtain ⟨bh,bU,ep,er,bl,bm,bn,bo,bp⟩:=rd35 aS HB ad
    cases bU
    go_wp2_with (first | ((with_reducible refine gate_dst (N:=6) rfl ?_);refine box_event ?hg (N:=6) ?hd (cs:=#[.int .i64 0,.int .i64 0,.int .i64 0,.int .i64 0,.int .i64 0]) (t:=35) ?hr ?_;(case hd=>rfl);(case hg=>rfl);(case hr=>(go_simp;done));intro ai hg ow hbox hb;replace ae:=qB ae hb;have al:=Aside0.mk hbox;have cp:=qz HB hg;have bs:=qz HB hg;replace HB:=qs HB hb;have af:=qn aa hg;have ay:=qN aa hg;replace aa:=qb aa hb;have ag:=qn ac hg;have aB:=qN ac hg;replace ac:=qb ac hb;clear hb hbox hg;have no:=ay.out;have nC:=af.out;have np:=aB.out;have nD:=ag.out;refine qc5 al fun jf jg jh ji jj jY jZ ka kb kc=>?_)|((with_reducible refine gate_store (t:=35) (p:=6) rfl ?_);refine store_event (t:=35) (p:=6) (v:=?iL) (w1:=(((((ow.setCell ⟨ai,0,none⟩ (.int .i64 ((rdQ ab ad).f0))).setCell ⟨ai,1,none⟩ (.int .i64 ((rdQ ab ad).f1))).setCell ⟨ai,2,none⟩ (.int .i64 ((rdQ ab ad).f2))).setCell ⟨ai,3,none⟩ (.int .i64 ((rdQ ab ad).f3))).setCell ⟨ai,4,none⟩ (.int .i64 ((rdQ ab ad).f4)))) ?hg ?ho ?hn ?hr ?_;(case ho=>rfl);(case hg=>rfl);(case hn=>rfl);(case hr=>(go_simp;done));intro fw hw;replace ae:Aside0 (Kd.R Kd.bool 4 fw w.heap.size (fun _=>True) (.slice (some ⟨ap,0,none⟩) ao.length aF) ao):=⟨(by rw [hw];exact (by exact Kd.R_mono (Kd.R_far (p:=⟨ai,4,none⟩) (Kd.R_far (p:=⟨ai,3,none⟩) (Kd.R_far (p:=⟨ai,2,none⟩) (Kd.R_far (p:=⟨ai,1,none⟩) (Kd.R_far (p:=⟨ai,0,none⟩) (Kd.R_types ae.out al.out (by decide)) (fun _ hk=>hk.2) (.int .i64 ((rdQ ab ad).f0))) (fun _ hk=>hk.2) (.int .i64 ((rdQ ab ad).f1))) (fun _ hk=>hk.2) (.int .i64 ((rdQ ab ad).f2))) (fun _ hk=>hk.2) (.int .i64 ((rdQ ab ad).f3))) (fun _ hk=>hk.2) (.int .i64 ((rdQ ab ad).f4))) (fun _ hk=>trivial)))⟩;replace aa:Aside0 (fw.heap[aW]?=some (.cells #[.slice (some bh) ab.length aL,.slice aI an.length aM,.slice aJ aq.length aN] 30 (0,0))):=⟨(by rw [hw];exact (by refine blk_far ?_ af.out _;refine blk_far ?_ af.out _;refine blk_far ?_ af.out _;refine blk_far ?_ af.out _;refine blk_far ?_ af.out _;exact aa.out))⟩;replace ac:Aside0 (fw.heap[am]?=some (.cells #[.slice none 0 0,.slice none 0 0,.slice none 0 0] 30 (0,0))):=⟨(by rw [hw];exact (by refine blk_far ?_ ag.out _;refine blk_far ?_ ag.out _;refine blk_far ?_ ag.out _;refine blk_far ?_ ag.out _;refine blk_far ?_ ag.out _;exact ac.out))⟩;replace al:Aside0 (fw.heap[ai]?=some (.cells #[.int .i64 ((rdQ ab ad).f0),.int .i64 ((rdQ ab ad).f1),.int .i64 ((rdQ ab ad).f2),.int .i64 ((rdQ ab ad).f3),.int .i64 ((rdQ ab ad).f4)] 35 (0,0))):=⟨(by rw [hw];exact (by refine blk_put (cs:=#[.int .i64 ((rdQ ab ad).f0),.int .i64 ((rdQ ab ad).f1),.int .i64 ((rdQ ab ad).f2),.int .i64 ((rdQ ab ad).f3),.int .i64 0]) ?_ 4 _ rfl;refine blk_put (cs:=#[.int .i64 ((rdQ ab ad).f0),.int .i64 ((rdQ ab ad).f1),.int .i64 ((rdQ ab ad).f2),.int .i64 0,.int .i64 0]) ?_ 3 _ rfl;refine blk_put (cs:=#[.int .i64 ((rdQ ab ad).f0),.int .i64 ((rdQ ab ad).f1),.int .i64 0,.int .i64 0,.int .i64 0]) ?_ 2 _ rfl;refine blk_put (cs:=#[.int .i64 ((rdQ ab ad).f0),.int .i64 0,.int .i64 0,.int .i64 0,.int .i64 0]) ?_ 1 _ rfl;refine blk_put (cs:=#[.int .i64 0,.int .i64 0,.int .i64 0,.int .i64 0,.int .i64 0]) ?_ 0 _ rfl;exact al.out))⟩;replace HB:Aside0 (Below w.heap.size w fw):=⟨(by rw [hw];exact (by repeat ((with_reducible first | exact HB.out | refine b_st ?_ bs.out))))⟩;clear hw;refine qc5 al fun jk jl jm jn jo kd ke kf kg kh=>?_;have mu:0≤((bL):Int):=od;have mA:((bL):Int) < ((ao.length:Int):Int):=od;obtain ⟨ml,lv⟩:=Kd.R_celln false ae.out ((bL):Int) mu mA;replace mu:=eq_true mu;replace mA:=eq_true mA;obtain ⟨nO,nS⟩:=Kd.R_celln false ae.out ((bL):Int) od od;have eW:=Kd.R_putg ae.out ((bL):Int) true)|((with_reducible refine gate_store (t:=4) (p:=50) rfl ?_);refine store_event (t:=4) (p:=50) (v:=?iM) (w1:=(fw.setCell ⟨ap,((bL):Int).toNat,none⟩ (.bool true))) ?hg ?ho ?hn ?hr ?_;(case ho=>rfl);(case hg=>rfl);(case hn=>rfl);(case hr=>(go_simp;done));intro iz hw;have hg:fw.grownBy iz (some ap):=(by rw [hw];exact eW.2);have hp_:Kd.R Kd.bool 4 iz w.heap.size (fun _=>True) (.slice (some ⟨ap,0,none⟩) ao.length aF) iB:=(by rw [hw,fR.out];exact eW.1);clear eW;replace aa:=qg aa hg ae (by decide);replace ac:=qg ac hg ae (by decide);replace al:=qg al hg ae (by decide);replace ae:=Aside0.mk hp_;replace HB:=Aside0.mk ((by rw [hw];exact b_st (HB.out) bT.out:Below w.heap.size w iz));clear hg hw hp_;refine qc5 al fun jp jq jr js jt ki kj kk kl km=>?_;have mv:0≤(((rdQ ab ad).f2):Int):=od;have mB:(((rdQ ab ad).f2):Int) < ((ao.length:Int):Int):=od;obtain ⟨mm,lw⟩:=Kd.R_celln false ae.out (((rdQ ab ad).f2):Int) mv mB;replace mv:=eq_true mv;replace mB:=eq_true mB;obtain ⟨nP,nT⟩:=Kd.R_celln false ae.out (((rdQ ab ad).f2):Int) od od;have eX:=Kd.R_putg ae.out (((rdQ ab ad).f2):Int) true)|((with_reducible refine gate_store (t:=4) (p:=54) rfl ?_);refine store_event (t:=4) (p:=54) (v:=?iO) (w1:=(iz.setCell ⟨ap,(((rdQ ab ad).f2):Int).toNat,none⟩ (.bool true))) ?hg ?ho ?hn ?hr ?_;(case ho=>rfl);(case hg=>rfl);(case hn=>rfl);(case hr=>(go_simp;done));intro mP hw;have hg:iz.grownBy mP (some ap):=(by rw [hw];exact eX.2);have hp_:Kd.R Kd.bool 4 mP w.heap.size (fun _=>True) (.slice (some ⟨ap,0,none⟩) ao.length aF) iC:=(by rw [hw,fS.out];exact eX.1);clear eX;replace aa:=qg aa hg ae (by decide);replace ac:=qg ac hg ae (by decide);replace al:=qg al hg ae (by decide);replace ae:=Aside0.mk hp_;replace HB:=Aside0.mk ((by rw [hw];exact b_st (HB.out) bT.out:Below w.heap.size w mP));clear hg hw hp_))
    (try simp only [← ah])
    go_roundg k1
    case measure=>have:=bA.out;omega
    case rel=>exact ⟨(iC),(bc),(bL),rfl,rfl,H',⟨by have:=bA.out;omega⟩,⟨by (try simp only [ah]);exact ae.out⟩,⟨by (try simp only [ah]);exact aa.out⟩,⟨by (try simp only [ah]);exact ac.out⟩,HB⟩
   rw [if_neg fA] at H
   obtain ⟨ez,eA⟩:=cBf fA
   by_cases gm:((rdQ ab ad).f0)=3
   ·rw [if_pos gm] at H
    obtain ⟨eB,eC⟩:=cBt gm
    clear gm
    replace H:=iNd H
    obtain ⟨gn,H⟩:=H
    replace H:=iNd H
    obtain ⟨gp,H⟩:=H
    obtain ⟨iD,da⟩:∃ y_:List Bool,y_=(ao.set (((rdQ ab ad).f1):Int).toNat true):=⟨_,rfl⟩
    rw [← da] at H
    have fT:=Aside0.mk da
    clear da
    have H':=Aside0.mk H
    clear H
    have nq:=aj.out
    have nE:=ak.out
    refine qc3 aa fun dA dB dC dU dV dW=>?_
    obtain ⟨aU,bJ,dj,dk,av⟩:=rob ae ad
    (try rw [← bR.out] at av)
    obtain rfl:(⟨ap,0,none⟩:Addr)=aU:=(by injection bJ)
    (simp only [add_plain] at av)
    obtain ⟨bh,bU,ep,er,bl,bm,bn,bo,bp⟩:=rd35 aS HB ad
    cases bU
    go_wp2_with (first | ((with_reducible refine gate_dst (N:=6) rfl ?_);refine box_event ?hg (N:=6) ?hd (cs:=#[.int .i64 0,.int .i64 0,.int .i64 0,.int .i64 0,.int .i64 0]) (t:=35) ?hr ?_;(case hd=>rfl);(case hg=>rfl);(case hr=>(go_simp;done));intro ai hg ox hbox hb;replace ae:=qB ae hb;have al:=Aside0.mk hbox;have cp:=qz HB hg;have bs:=qz HB hg;replace HB:=qs HB hb;have af:=qn aa hg;have ay:=qN aa hg;replace aa:=qb aa hb;have ag:=qn ac hg;have aB:=qN ac hg;replace ac:=qb ac hb;clear hb hbox hg;have nr:=ay.out;have nF:=af.out;have ns:=aB.out;have nG:=ag.out;refine qc5 al fun dD dE dF dG dH dX dY dZ ea eb=>?_)|((with_reducible refine gate_store (t:=35) (p:=6) rfl ?_);refine store_event (t:=35) (p:=6) (v:=?iQ) (w1:=(((((ox.setCell ⟨ai,0,none⟩ (.int .i64 ((rdQ ab ad).f0))).setCell ⟨ai,1,none⟩ (.int .i64 ((rdQ ab ad).f1))).setCell ⟨ai,2,none⟩ (.int .i64 ((rdQ ab ad).f2))).setCell ⟨ai,3,none⟩ (.int .i64 ((rdQ ab ad).f3))).setCell ⟨ai,4,none⟩ (.int .i64 ((rdQ ab ad).f4)))) ?hg ?ho ?hn ?hr ?_;(case ho=>rfl);(case hg=>rfl);(case hn=>rfl);(case hr=>(go_simp;done));intro fx hw;replace ae:Aside0 (Kd.R Kd.bool 4 fx w.heap.size (fun _=>True) (.slice (some ⟨ap,0,none⟩) ao.length aF) ao):=⟨(by rw [hw];exact (by exact Kd.R_mono (Kd.R_far (p:=⟨ai,4,none⟩) (Kd.R_far (p:=⟨ai,3,none⟩) (Kd.R_far (p:=⟨ai,2,none⟩) (Kd.R_far (p:=⟨ai,1,none⟩) (Kd.R_far (p:=⟨ai,0,none⟩) (Kd.R_types ae.out al.out (by decide)) (fun _ hk=>hk.2) (.int .i64 ((rdQ ab ad).f0))) (fun _ hk=>hk.2) (.int .i64 ((rdQ ab ad).f1))) (fun _ hk=>hk.2) (.int .i64 ((rdQ ab ad).f2))) (fun _ hk=>hk.2) (.int .i64 ((rdQ ab ad).f3))) (fun _ hk=>hk.2) (.int .i64 ((rdQ ab ad).f4))) (fun _ hk=>trivial)))⟩;replace aa:Aside0 (fx.heap[aW]?=some (.cells #[.slice (some bh) ab.length aL,.slice aI an.length aM,.slice aJ aq.length aN] 30 (0,0))):=⟨(by rw [hw];exact (by refine blk_far ?_ af.out _;refine blk_far ?_ af.out _;refine blk_far ?_ af.out _;refine blk_far ?_ af.out _;refine blk_far ?_ af.out _;exact aa.out))⟩;replace ac:Aside0 (fx.heap[am]?=some (.cells #[.slice none 0 0,.slice none 0 0,.slice none 0 0] 30 (0,0))):=⟨(by rw [hw];exact (by refine blk_far ?_ ag.out _;refine blk_far ?_ ag.out _;refine blk_far ?_ ag.out _;refine blk_far ?_ ag.out _;refine blk_far ?_ ag.out _;exact ac.out))⟩;replace al:Aside0 (fx.heap[ai]?=some (.cells #[.int .i64 ((rdQ ab ad).f0),.int .i64 ((rdQ ab ad).f1),.int .i64 ((rdQ ab ad).f2),.int .i64 ((rdQ ab ad).f3),.int .i64 ((rdQ ab ad).f4)] 35 (0,0))):=⟨(by rw [hw];exact (by refine blk_put (cs:=#[.int .i64 ((rdQ ab ad).f0),.int .i64 ((rdQ ab ad).f1),.int .i64 ((rdQ ab ad).f2),.int .i64 ((rdQ ab ad).f3),.int .i64 0]) ?_ 4 _ rfl;refine blk_put (cs:=#[.int .i64 ((rdQ ab ad).f0),.int .i64 ((rdQ ab ad).f1),.int .i64 ((rdQ ab ad).f2),.int .i64 0,.int .i64 0]) ?_ 3 _ rfl;refine blk_put (cs:=#[.int .i64 ((rdQ ab ad).f0),.int .i64 ((rdQ ab ad).f1),.int .i64 0,.int .i64 0,.int .i64 0]) ?_ 2 _ rfl;refine blk_put (cs:=#[.int .i64 ((rdQ ab ad).f0),.int .i64 0,.int .i64 0,.int .i64 0,.int .i64 0]) ?_ 1 _ rfl;refine blk_put (cs:=#[.int .i64 0,.int .i64 0,.int .i64 0,.int .i64 0,.int .i64 0]) ?_ 0 _ rfl;exact al.out))⟩;replace HB:Aside0 (Below w.heap.size w fx):=⟨(by rw [hw];exact (by repeat ((with_reducible first | exact HB.out | refine b_st ?_ bs.out))))⟩;clear hw;refine qc5 al fun dI dJ dK dL dM ec ed ee ef eg=>?_;have kY:0≤(((rdQ ab ad).f1):Int):=od;have la:(((rdQ ab ad).f1):Int) < ((ao.length:Int):Int):=od;obtain ⟨fm,lx⟩:=Kd.R_celln false ae.out (((rdQ ab ad).f1):Int) kY la;replace kY:=eq_true kY;replace la:=eq_true la;obtain ⟨nQ,nU⟩:=Kd.R_celln false ae.out (((rdQ ab ad).f1):Int) od od;have eY:=Kd.R_putg ae.out (((rdQ ab ad).f1):Int) true)|((with_reducible refine gate_store (t:=4) (p:=60) rfl ?_);refine store_event (t:=4) (p:=60) (v:=?iR) (w1:=(fx.setCell ⟨ap,(((rdQ ab ad).f1):Int).toNat,none⟩ (.bool true))) ?hg ?ho ?hn ?hr ?_;(case ho=>rfl);(case hg=>rfl);(case hn=>rfl);(case hr=>(go_simp;done));intro mQ hw;have hg:fx.grownBy mQ (some ap):=(by rw [hw];exact eY.2);have hp_:Kd.R Kd.bool 4 mQ w.heap.size (fun _=>True) (.slice (some ⟨ap,0,none⟩) ao.length aF) iD:=(by rw [hw,fT.out];exact eY.1);clear eY;replace aa:=qg aa hg ae (by decide);replace ac:=qg ac hg ae (by decide);replace al:=qg al hg ae (by decide);replace ae:=Aside0.mk hp_;replace HB:=Aside0.mk ((by rw [hw];exact b_st (HB.out) bT.out:Below w.heap.size w mQ));clear hg hw hp_))
    go_loopg [7] k1 (fun kq v7 w'=>∃ (cb:List Bool) (bk:Int),v7=.int .i64 bk∧Aside0 (rfTrim.l1 kq cb true ad bk ab an aq=some (r1,r2,r3))∧Aside0 (kq≤k1)∧Aside0 (Kd.R Kd.bool 4 w' w.heap.size (fun _=>True) (.slice (some ⟨ap,0,none⟩) ao.length aF) cb)∧Aside0 (w'.heap[aW]?=some (.cells #[(.slice (some bh) ab.length aL),(.slice aI an.length aM),(.slice aJ aq.length aN)] 30 (0,0)))∧Aside0 (w'.heap[am]?=some (.cells #[(.slice none 0 0),(.slice none 0 0),(.slice none 0 0)] 30 (0,0)))∧Aside0 (w'.heap[ai]?=some (.cells #[.int .i64 ((rdQ ab ad).f0),.int .i64 ((rdQ ab ad).f1),.int .i64 ((rdQ ab ad).f2),.int .i64 ((rdQ ab ad).f3),.int .i64 ((rdQ ab ad).f4)] 35 (0,0)))∧Aside0 (Below w.heap.size w w'))
    case atStart=>exact ⟨(iD),(0),rfl,H',⟨Nat.le_refl _⟩,⟨by (try simp only [ah]);exact ae.out⟩,⟨by (try simp only [ah]);exact aa.out⟩,⟨by (try simp only [ah]);exact ac.out⟩,⟨by (try simp only [ah]);exact al.out⟩,HB⟩
    clear H'
    clear cC gj gl fA ez eA eB eC gn gp kY la dA dB dC dD dE dF dG dH dI dJ dK dL dM dU dV dW dX dY dZ ea eb ec ed ee ef eg av bl bm bn bo bp fm dj ep dk er
    obtain ⟨cb,bk,rfl,HA,ci,ae,aa,ac,al,HB⟩:=hrel
    have aG:=(Kd.R_reads' ae.out).1
    rw [aG] at ae
    (try simp only [aG])
    (try simp only [aG] at aa)
    (try simp only [aG] at ac)
    (try simp only [aG] at al)
    obtain _ | k2:=gk
    ·exact absurd HA.out (by simp [rfTrim.l1])
    have H:=HA.out
    clear HA
    simp only [rfTrim.l1] at H
    by_cases fB:bk < (aq.length:Int)
    ·rw [if_pos fB] at H
     have gq:=decide_eq_true fB
     clear fB
     replace H:=iNd H
     obtain ⟨ne,H⟩:=H
     replace H:=iNd H
     obtain ⟨nf,H⟩:=H
     replace H:=iNd H
     obtain ⟨ng,H⟩:=H
     obtain ⟨iE,db⟩:∃ y_:List Bool,y_=(cb.set (((rdR aq bk).f1):Int).toNat true):=⟨_,rfl⟩
     rw [← db] at H
     have fU:=Aside0.mk db
     clear db
     have H':=Aside0.mk H
     clear H
     have nt:=aj.out
     have nH:=ak.out
     have nu:=af.out
     have nI:=ay.out
     refine qc3 aa fun ju jv jw kn ko kp=>?_
     obtain ⟨mX,ll,of,oi,kL,kM⟩:=rd37 bB HB bk
     cases ll
     have my:0≤(((rdR aq bk).f1):Int):=od
     have mE:(((rdR aq bk).f1):Int) < ((cb.length:Int):Int):=od
     obtain ⟨mn,ly⟩:=Kd.R_celln false ae.out (((rdR aq bk).f1):Int) my mE
     replace my:=eq_true my
     replace mE:=eq_true mE
     have eZ:=Kd.R_putg ae.out (((rdR aq bk).f1):Int) true
     go_wp2_with (((with_reducible refine gate_store (t:=4) (p:=75) rfl ?_);refine store_event (t:=4) (p:=75) (v:=?iS) (w1:=(wr.setCell ⟨ap,(((rdR aq bk).f1):Int).toNat,none⟩ (.bool true))) ?hg ?ho ?hn ?hr ?_;(case ho=>rfl);(case hg=>rfl);(case hn=>rfl);(case hr=>(go_simp;done));intro mR hw;have hg:wr.grownBy mR (some ap):=(by rw [hw];exact eZ.2);have hp_:Kd.R Kd.bool 4 mR w.heap.size (fun _=>True) (.slice (some ⟨ap,0,none⟩) cb.length aF) iE:=(by rw [hw,fU.out];exact eZ.1);clear eZ;replace aa:=qg aa hg ae (by decide);replace ac:=qg ac hg ae (by decide);replace al:=qg al hg ae (by decide);replace ae:=Aside0.mk hp_;replace HB:=Aside0.mk ((by rw [hw];exact b_st (HB.out) bT.out:Below w.heap.size w mR));clear hg hw hp_))
     (try simp only [← aG])
     go_roundg k2
     case measure=>have:=bA.out;have:=ci.out;omega
     case rel=>exact ⟨(iE),(wrap64 (bk+1)),rfl,H',⟨by have:=bA.out;have:=ci.out;omega⟩,⟨by (try simp only [ah]);(try simp only [aG]);exact ae.out⟩,⟨by (try simp only [ah]);(try simp only [aG]);exact aa.out⟩,⟨by (try simp only [ah]);(try simp only [aG]);exact ac.out⟩,⟨by (try simp only [ah]);(try simp only [aG]);exact al.out⟩,HB⟩
    rw [if_neg fB] at H
    have gq:=decide_eq_false fB
    clear fB
    have H':=Aside0.mk H
    clear H
    have nv:=aj.out
    have nJ:=ak.out
    have nw:=af.out
    have nK:=ay.out
    refine qc3 aa fun jx jy jz kr ks kt=>?_
    go_wp2
    (try simp only [← ah,← aG])
    go_roundg k2
    case measure=>have:=bA.out;have:=ci.out;omega
    case rel=>exact ⟨(cb),(true),(wrap64 (ad+1)),rfl,rfl,H',⟨by have:=bA.out;have:=ci.out;omega⟩,⟨by (try simp only [ah]);(try simp only [aG]);exact ae.out⟩,⟨by (try simp only [ah]);(try simp only [aG]);exact aa.out⟩,⟨by (try simp only [ah]);(try simp only [aG]);exact ac.out⟩,HB⟩
   rw [if_neg gm] at H
   obtain ⟨eB,eC⟩:=cBf gm
   by_cases gr:((rdQ ab ad).f0)=4
   ·rw [if_pos gr] at H
    obtain ⟨gs,gt⟩:=cBt gr
    clear gr
    replace H:=iNd H
    obtain ⟨nh,H⟩:=H
    replace H:=iNd H
    obtain ⟨ni,H⟩:=H
    obtain ⟨iG,dc⟩:∃ y_:List Bool,y_=(ao.set (((rdQ ab ad).f1):Int).toNat true):=⟨_,rfl⟩
    rw [← dc] at H
    have fV:=Aside0.mk dc
    clear dc
    have H':=Aside0.mk H
    clear H
    have nx:=aj.out
    have nL:=ak.out
    refine qc3 aa fun jA jB jC ku kv kw=>?_
    obtain ⟨aU,bJ,dj,dk,av⟩:=rob ae ad
    (try rw [← bR.out] at av)
    obtain rfl:(⟨ap,0,none⟩:Addr)=aU:=(by injection bJ)
    (simp only [add_plain] at av)
    obtain ⟨bh,bU,ep,er,bl,bm,bn,bo,bp⟩:=rd35 aS HB ad
    cases bU
    go_wp2_with (first | ((with_reducible refine gate_dst (N:=6) rfl ?_);refine box_event ?hg (N:=6) ?hd (cs:=#[.int .i64 0,.int .i64 0,.int .i64 0,.int .i64 0,.int .i64 0]) (t:=35) ?hr ?_;(case hd=>rfl);(case hg=>rfl);(case hr=>(go_simp;done));intro ai hg oy hbox hb;replace ae:=qB ae hb;have al:=Aside0.mk hbox;have cp:=qz HB hg;have bs:=qz HB hg;replace HB:=qs HB hb;have af:=qn aa hg;have ay:=qN aa hg;replace aa:=qb aa hb;have ag:=qn ac hg;have aB:=qN ac hg;replace ac:=qb ac hb;clear hb hbox hg;have ny:=ay.out;have nM:=af.out;have nz:=aB.out;have nN:=ag.out;refine qc5 al fun jD jE jF jG jH kx ky kz kA kB=>?_)|((with_reducible refine gate_store (t:=35) (p:=6) rfl ?_);refine store_event (t:=35) (p:=6) (v:=?iT) (w1:=(((((oy.setCell ⟨ai,0,none⟩ (.int .i64 ((rdQ ab ad).f0))).setCell ⟨ai,1,none⟩ (.int .i64 ((rdQ ab ad).f1))).setCell ⟨ai,2,none⟩ (.int .i64 ((rdQ ab ad).f2))).setCell ⟨ai,3,none⟩ (.int .i64 ((rdQ ab ad).f3))).setCell ⟨ai,4,none⟩ (.int .i64 ((rdQ ab ad).f4)))) ?hg ?ho ?hn ?hr ?_;(case ho=>rfl);(case hg=>rfl);(case hn=>rfl);(case hr=>(go_simp;done));intro fy hw;replace ae:Aside0 (Kd.R Kd.bool 4 fy w.heap.size (fun _=>True) (.slice (some ⟨ap,0,none⟩) ao.length aF) ao):=⟨(by rw [hw];exact (by exact Kd.R_mono (Kd.R_far (p:=⟨ai,4,none⟩) (Kd.R_far (p:=⟨ai,3,none⟩) (Kd.R_far (p:=⟨ai,2,none⟩) (Kd.R_far (p:=⟨ai,1,none⟩) (Kd.R_far (p:=⟨ai,0,none⟩) (Kd.R_types ae.out al.out (by decide)) (fun _ hk=>hk.2) (.int .i64 ((rdQ ab ad).f0))) (fun _ hk=>hk.2) (.int .i64 ((rdQ ab ad).f1))) (fun _ hk=>hk.2) (.int .i64 ((rdQ ab ad).f2))) (fun _ hk=>hk.2) (.int .i64 ((rdQ ab ad).f3))) (fun _ hk=>hk.2) (.int .i64 ((rdQ ab ad).f4))) (fun _ hk=>trivial)))⟩;replace aa:Aside0 (fy.heap[aW]?=some (.cells #[.slice (some bh) ab.length aL,.slice aI an.length aM,.slice aJ aq.length aN] 30 (0,0))):=⟨(by rw [hw];exact (by refine blk_far ?_ af.out _;refine blk_far ?_ af.out _;refine blk_far ?_ af.out _;refine blk_far ?_ af.out _;refine blk_far ?_ af.out _;exact aa.out))⟩;replace ac:Aside0 (fy.heap[am]?=some (.cells #[.slice none 0 0,.slice none 0 0,.slice none 0 0] 30 (0,0))):=⟨(by rw [hw];exact (by refine blk_far ?_ ag.out _;refine blk_far ?_ ag.out _;refine blk_far ?_ ag.out _;refine blk_far ?_ ag.out _;refine blk_far ?_ ag.out _;exact ac.out))⟩;replace al:Aside0 (fy.heap[ai]?=some (.cells #[.int .i64 ((rdQ ab ad).f0),.int .i64 ((rdQ ab ad).f1),.int .i64 ((rdQ ab ad).f2),.int .i64 ((rdQ ab ad).f3),.int .i64 ((rdQ ab ad).f4)] 35 (0,0))):=⟨(by rw [hw];exact (by refine blk_put (cs:=#[.int .i64 ((rdQ ab ad).f0),.int .i64 ((rdQ ab ad).f1),.int .i64 ((rdQ ab ad).f2),.int .i64 ((rdQ ab ad).f3),.int .i64 0]) ?_ 4 _ rfl;refine blk_put (cs:=#[.int .i64 ((rdQ ab ad).f0),.int .i64 ((rdQ ab ad).f1),.int .i64 ((rdQ ab ad).f2),.int .i64 0,.int .i64 0]) ?_ 3 _ rfl;refine blk_put (cs:=#[.int .i64 ((rdQ ab ad).f0),.int .i64 ((rdQ ab ad).f1),.int .i64 0,.int .i64 0,.int .i64 0]) ?_ 2 _ rfl;refine blk_put (cs:=#[.int .i64 ((rdQ ab ad).f0),.int .i64 0,.int .i64 0,.int .i64 0,.int .i64 0]) ?_ 1 _ rfl;refine blk_put (cs:=#[.int .i64 0,.int .i64 0,.int .i64 0,.int .i64 0,.int .i64 0]) ?_ 0 _ rfl;exact al.out))⟩;replace HB:Aside0 (Below w.heap.size w fy):=⟨(by rw [hw];exact (by repeat ((with_reducible first | exact HB.out | refine b_st ?_ bs.out))))⟩;clear hw;refine qc5 al fun jI jJ jK jL jM kC kD kE kF kG=>?_;have mz:0≤(((rdQ ab ad).f1):Int):=od;have mF:(((rdQ ab ad).f1):Int) < ((ao.length:Int):Int):=od;obtain ⟨mo,lz⟩:=Kd.R_celln false ae.out (((rdQ ab ad).f1):Int) mz mF;replace mz:=eq_true mz;replace mF:=eq_true mF;obtain ⟨nR,nV⟩:=Kd.R_celln false ae.out (((rdQ ab ad).f1):Int) od od;have fa:=Kd.R_putg ae.out (((rdQ ab ad).f1):Int) true)|((with_reducible refine gate_store (t:=4) (p:=81) rfl ?_);refine store_event (t:=4) (p:=81) (v:=?iU) (w1:=(fy.setCell ⟨ap,(((rdQ ab ad).f1):Int).toNat,none⟩ (.bool true))) ?hg ?ho ?hn ?hr ?_;(case ho=>rfl);(case hg=>rfl);(case hn=>rfl);(case hr=>(go_simp;done));intro mS hw;have hg:fy.grownBy mS (some ap):=(by rw [hw];exact fa.2);have hp_:Kd.R Kd.bool 4 mS w.heap.size (fun _=>True) (.slice (some ⟨ap,0,none⟩) ao.length aF) iG:=(by rw [hw,fV.out];exact fa.1);clear fa;replace aa:=qg aa hg ae (by decide);replace ac:=qg ac hg ae (by decide);replace al:=qg al hg ae (by decide);replace ae:=Aside0.mk hp_;replace HB:=Aside0.mk ((by rw [hw];exact b_st (HB.out) bT.out:Below w.heap.size w mS));clear hg hw hp_))
    (try simp only [← ah])
    go_roundg k1
    case measure=>have:=bA.out;omega
    case rel=>exact ⟨(iG),(bc),(wrap64 (ad+1)),rfl,rfl,H',⟨by have:=bA.out;omega⟩,⟨by (try simp only [ah]);exact ae.out⟩,⟨by (try simp only [ah]);exact aa.out⟩,⟨by (try simp only [ah]);exact ac.out⟩,HB⟩
   rw [if_neg gr] at H
   obtain ⟨gs,gt⟩:=cBf gr
   obtain ⟨bM,eJ⟩:∃ j_:Int,(wrap64 (ad+1))=j_:=⟨_,rfl⟩
   rw [eJ] at H
   have lF:(IntKind.i64.wrap (ad+1))=bM:=(i64_w _).trans eJ
   replace H:=iNd H
   obtain ⟨nj,H⟩:=H
   replace H:=iNd H
   obtain ⟨lc,H⟩:=H
   obtain ⟨iH,dd⟩:∃ y_:List Bool,y_=(ao.set ((bM):Int).toNat true):=⟨_,rfl⟩
   rw [← dd] at H
   have fW:=Aside0.mk dd
   clear dd
   have H':=Aside0.mk H
   clear H
   have lG:=aj.out
   have lV:=ak.out
   refine qc3 aa fun gD gE gF hC hD hE=>?_
   obtain ⟨aU,bJ,dj,dk,av⟩:=rob ae ad
   (try rw [← bR.out] at av)
   obtain rfl:(⟨ap,0,none⟩:Addr)=aU:=(by injection bJ)
   (simp only [add_plain] at av)
   obtain ⟨bh,bU,ep,er,bl,bm,bn,bo,bp⟩:=rd35 aS HB ad
   cases bU
   go_wp2_with (first | ((with_reducible refine gate_dst (N:=6) rfl ?_);refine box_event ?hg (N:=6) ?hd (cs:=#[.int .i64 0,.int .i64 0,.int .i64 0,.int .i64 0,.int .i64 0]) (t:=35) ?hr ?_;(case hd=>rfl);(case hg=>rfl);(case hr=>(go_simp;done));intro ai hg mN hbox hb;replace ae:=qB ae hb;have al:=Aside0.mk hbox;have cp:=qz HB hg;have bs:=qz HB hg;replace HB:=qs HB hb;have af:=qn aa hg;have ay:=qN aa hg;replace aa:=qb aa hb;have ag:=qn ac hg;have aB:=qN ac hg;replace ac:=qb ac hb;clear hb hbox hg;have lH:=ay.out;have lW:=af.out;have lI:=aB.out;have lX:=ag.out;refine qc5 al fun gG gH gI gJ gK hF hG hH hI hJ=>?_)|((with_reducible refine gate_store (t:=35) (p:=6) rfl ?_);refine store_event (t:=35) (p:=6) (v:=?fC) (w1:=(((((mN.setCell ⟨ai,0,none⟩ (.int .i64 ((rdQ ab ad).f0))).setCell ⟨ai,1,none⟩ (.int .i64 ((rdQ ab ad).f1))).setCell ⟨ai,2,none⟩ (.int .i64 ((rdQ ab ad).f2))).setCell ⟨ai,3,none⟩ (.int .i64 ((rdQ ab ad).f3))).setCell ⟨ai,4,none⟩ (.int .i64 ((rdQ ab ad).f4)))) ?hg ?ho ?hn ?hr ?_;(case ho=>rfl);(case hg=>rfl);(case hn=>rfl);(case hr=>(go_simp;done));intro ca hw;replace ae:Aside0 (Kd.R Kd.bool 4 ca w.heap.size (fun _=>True) (.slice (some ⟨ap,0,none⟩) ao.length aF) ao):=⟨(by rw [hw];exact (by exact Kd.R_mono (Kd.R_far (p:=⟨ai,4,none⟩) (Kd.R_far (p:=⟨ai,3,none⟩) (Kd.R_far (p:=⟨ai,2,none⟩) (Kd.R_far (p:=⟨ai,1,none⟩) (Kd.R_far (p:=⟨ai,0,none⟩) (Kd.R_types ae.out al.out (by decide)) (fun _ hk=>hk.2) (.int .i64 ((rdQ ab ad).f0))) (fun _ hk=>hk.2) (.int .i64 ((rdQ ab ad).f1))) (fun _ hk=>hk.2) (.int .i64 ((rdQ ab ad).f2))) (fun _ hk=>hk.2) (.int .i64 ((rdQ ab ad).f3))) (fun _ hk=>hk.2) (.int .i64 ((rdQ ab ad).f4))) (fun _ hk=>trivial)))⟩;replace aa:Aside0 (ca.heap[aW]?=some (.cells #[.slice (some bh) ab.length aL,.slice aI an.length aM,.slice aJ aq.length aN] 30 (0,0))):=⟨(by rw [hw];exact (by refine blk_far ?_ af.out _;refine blk_far ?_ af.out _;refine blk_far ?_ af.out _;refine blk_far ?_ af.out _;refine blk_far ?_ af.out _;exact aa.out))⟩;replace ac:Aside0 (ca.heap[am]?=some (.cells #[.slice none 0 0,.slice none 0 0,.slice none 0 0] 30 (0,0))):=⟨(by rw [hw];exact (by refine blk_far ?_ ag.out _;refine blk_far ?_ ag.out _;refine blk_far ?_ ag.out _;refine blk_far ?_ ag.out _;refine blk_far ?_ ag.out _;exact ac.out))⟩;replace al:Aside0 (ca.heap[ai]?=some (.cells #[.int .i64 ((rdQ ab ad).f0),.int .i64 ((rdQ ab ad).f1),.int .i64 ((rdQ ab ad).f2),.int .i64 ((rdQ ab ad).f3),.int .i64 ((rdQ ab ad).f4)] 35 (0,0))):=⟨(by rw [hw];exact (by refine blk_put (cs:=#[.int .i64 ((rdQ ab ad).f0),.int .i64 ((rdQ ab ad).f1),.int .i64 ((rdQ ab ad).f2),.int .i64 ((rdQ ab ad).f3),.int .i64 0]) ?_ 4 _ rfl;refine blk_put (cs:=#[.int .i64 ((rdQ ab ad).f0),.int .i64 ((rdQ ab ad).f1),.int .i64 ((rdQ ab ad).f2),.int .i64 0,.int .i64 0]) ?_ 3 _ rfl;refine blk_put (cs:=#[.int .i64 ((rdQ ab ad).f0),.int .i64 ((rdQ ab ad).f1),.int .i64 0,.int .i64 0,.int .i64 0]) ?_ 2 _ rfl;refine blk_put (cs:=#[.int .i64 ((rdQ ab ad).f0),.int .i64 0,.int .i64 0,.int .i64 0,.int .i64 0]) ?_ 1 _ rfl;refine blk_put (cs:=#[.int .i64 0,.int .i64 0,.int .i64 0,.int .i64 0,.int .i64 0]) ?_ 0 _ rfl;exact al.out))⟩;replace HB:Aside0 (Below w.heap.size w ca):=⟨(by rw [hw];exact (by repeat ((with_reducible first | exact HB.out | refine b_st ?_ bs.out))))⟩;clear hw;refine qc5 al fun gL gM gN gO gP hK hL hM hN hO=>?_;have fn:0≤((bM):Int):=od;have fp:((bM):Int) < ((ao.length:Int):Int):=od;obtain ⟨kJ,jN⟩:=Kd.R_celln false ae.out ((bM):Int) fn fp;replace fn:=eq_true fn;replace fp:=eq_true fp;obtain ⟨mq,ms⟩:=Kd.R_celln false ae.out ((bM):Int) od od;have cr:=Kd.R_putg ae.out ((bM):Int) true)|((with_reducible refine gate_store (t:=4) (p:=44) rfl ?_);refine store_event (t:=4) (p:=44) (v:=?fD) (w1:=(ca.setCell ⟨ap,((bM):Int).toNat,none⟩ (.bool true))) ?hg ?ho ?hn ?hr ?_;(case ho=>rfl);(case hg=>rfl);(case hn=>rfl);(case hr=>(go_simp;done));intro fs hw;have hg:ca.grownBy fs (some ap):=(by rw [hw];exact cr.2);have hp_:Kd.R Kd.bool 4 fs w.heap.size (fun _=>True) (.slice (some ⟨ap,0,none⟩) ao.length aF) iH:=(by rw [hw,fW.out];exact cr.1);clear cr;replace aa:=qg aa hg ae (by decide);replace ac:=qg ac hg ae (by decide);replace al:=qg al hg ae (by decide);replace ae:=Aside0.mk hp_;replace HB:=Aside0.mk ((by rw [hw];exact b_st (HB.out) bT.out:Below w.heap.size w fs));clear hg hw hp_))
   (try simp only [← ah])
   go_roundg k1
   case measure=>have:=bA.out;omega
   case rel=>exact ⟨(iH),(bc),(bM),rfl,rfl,H',⟨by have:=bA.out;omega⟩,⟨by (try simp only [ah]);exact ae.out⟩,⟨by (try simp only [ah]);exact aa.out⟩,⟨by (try simp only [ah]);exact ac.out⟩,HB⟩
  replace iV:=Bool.eq_false_iff.mpr iV
  subst iV
  replace H:=iF H
  have H':=Aside0.mk H
  clear H
  have lJ:=aj.out
  have lY:=ak.out
  refine qc3 aa fun gQ gR gS hP hQ hR=>?_
  obtain ⟨aU,bJ,dj,dk,av⟩:=rob ae ad
  (try rw [← bR.out] at av)
  obtain rfl:(⟨ap,0,none⟩:Addr)=aU:=(by injection bJ)
  (simp only [add_plain] at av)
  go_wp2
  (try simp only [← ah])
  go_roundg k1
  case measure=>have:=bA.out;omega
  case rel=>exact ⟨(ao),(bc),(wrap64 (ad+1)),rfl,rfl,H',⟨by have:=bA.out;omega⟩,⟨by (try simp only [ah]);exact ae.out⟩,⟨by (try simp only [ah]);exact aa.out⟩,⟨by (try simp only [ah]);exact ac.out⟩,HB⟩
 rw [if_neg fz] at H
 have cC:=decide_eq_false fz
 clear fz
 obtain ⟨cg,cS⟩:∃ j_:Int,(wrap64 ((an.length:Int)+1))=j_:=⟨_,rfl⟩
 rw [cS] at H
 have kH:(IntKind.i64.wrap ((an.length:Int)+1))=cg:=(i64_w _).trans cS
 replace H:=iNB H
 obtain ⟨fb,fc,H⟩:=H
 replace H:=iNB H
 obtain ⟨fd,fe,H⟩:=H
 obtain ⟨bw,de⟩:∃ y_:List Bool,y_=(List.replicate (cg:Int).toNat false):=⟨_,rfl⟩
 replace H:(if 0 < (bw.length:Int) then (rfTrim.l2 k1 ao bc (bw.set (0:Int).toNat true) 0 ab an aq) else (none))=some (r1,r2,r3):=by (have fN:=(Option.bind_some _ _).symm.trans H;rw [de];with_reducible exact fN)
 have fX:=Aside0.mk de
 clear de
 replace H:=iN H
 obtain ⟨gc,H⟩:=H
 have ff:=decide_eq_true gc
 have fg:decide (0 < bw.length)=true:=decide_eq_true (by omega)
 clear gc
 obtain ⟨iI,df⟩:∃ y_:List Bool,y_=(bw.set (0:Int).toNat true):=⟨_,rfl⟩
 rw [← df] at H
 have fY:=Aside0.mk df
 clear df
 have H':=Aside0.mk H
 clear H
 have lK:=aj.out
 have lZ:=ak.out
 refine qc3 aa fun cF cG cH cM cN cO=>?_
 go_wp2_with (first | ((with_reducible refine gate_dst (N:=86) rfl ?_);refine Kd.R_make Kd.bool _ 4 rfl (N:=86) rfl 55 _ _ rfl cg rfl rfl Try.underlying55 (.bool false) 1 info4 rfl (by decide) (by omega) false (ok:=fun _=>True) (okp:=fun _=>True) rfl (fun _ hk=>hk) trivial od (Nat.le_trans (Nat.mul_le_mul_right _ (od:cg.toNat≤281474976710656)) (by omega)) (Below.refl _ _) (Nat.le_refl _) ?_;intro oq iy cf hb hg_ hnew_;clear hg_ hnew_;(rw [← fX.out] at cf);have aK:=ql (qw cf ae) HB;replace ae:=qe ae cf hb;replace aa:=qb aa hb;replace ac:=qb ac hb;replace HB:=qs HB hb;clear hb cf;have eo:0≤(0:Int):=(by omega);have eq:(0:Int) < ((bw.length:Int):Int):=od;have ix:(0 < bw.length)=True:=eq_true (by omega);obtain ⟨ar,aA,eD,eE,gC,nk,et⟩:=Kd.R_form aK.out (by omega);(first | cases eD | (injection eD with ea_ en_ ec_;(fail);subst ec_;clear en_));have cc:=Aside0.mk eE;have mW:=Aside0.mk et;clear eE gC et;obtain ⟨bK,ce⟩:=Kd.R_celln false aK.out (0:Int) eo eq;(try rw [show ((0:Int)).toNat=0 from rfl] at bK);(try simp only [Nat.reduceMul,Nat.zero_mul,Nat.zero_add,Nat.reduceAdd] at bK);(try rw [show ((0:Int)).toNat=0 from rfl] at ce);(try simp only [Nat.reduceMul,Nat.zero_mul,Nat.zero_add,Nat.reduceAdd] at ce);replace eo:=eq_true eo;replace eq:=eq_true eq;have n_:=Aside0.mk (Kd.R_mono (ok':=(fun k_=>some k_≠(.slice (some ⟨ap,0,none⟩) ao.length aF:Value).ownBlock)) aK.out (fun k_ hk=>hk.2));clear aK;have aK:=n_;clear n_;obtain ⟨cV,di⟩:=Kd.R_celln false aK.out (0:Int) (by omega) od;(try simp only [Int.reduceToNat,Int.toNat_zero,Int.toNat_ofNat,Nat.reduceMul,Nat.zero_mul,Nat.zero_add] at cV di);(try rw [show ((0:Int)).toNat=0 from rfl] at cV);(try rw [show ((0:Int)).toNat=0 from rfl] at di);have ct:=Kd.R_putg aK.out (0:Int) true)|((with_reducible refine gate_store (t:=4) (p:=88) rfl ?_);refine store_event (t:=4) (p:=88) (v:=?fE) (w1:=(iy.setCell ⟨ar,(0:Int).toNat,none⟩ (.bool true))) ?hg ?ho ?hn ?hr ?_;(case ho=>rfl);(case hg=>rfl);(case hn=>rfl);(case hr=>(go_simp;done));intro ft hw;have hg:iy.grownBy ft (some ar):=(by rw [hw];exact ct.2);have hp_:Kd.R Kd.bool 4 ft w.heap.size (fun k_=>some k_≠(.slice (some ⟨ap,0,none⟩) ao.length aF:Value).ownBlock) (.slice (some ⟨ar,0,none⟩) bw.length aA) iI:=(by rw [hw,fY.out];exact ct.1);clear ct;replace ae:=Aside0.mk (Kd.R_after (v:=(.slice (some ⟨ar,0,none⟩) bw.length aA)) (v1:=(.slice (some ⟨ar,0,none⟩) bw.length aA)) (ok:=(fun _=>True)) ae.out hg (.inl rfl));replace aa:=qg aa hg aK (by decide);replace ac:=qg ac hg aK (by decide);replace aK:=Aside0.mk hp_;replace HB:=Aside0.mk ((by rw [hw];exact b_st (HB.out) cc.out:Below w.heap.size w ft));clear hg hw hp_))
 go_loopg [9] k1 (fun kq v9 w'=>∃ (aC:List Bool) (az:Int),v9=.int .i64 az∧Aside0 (rfTrim.l2 kq ao bc aC az ab an aq=some (r1,r2,r3))∧Aside0 (kq≤k1)∧Aside0 (Kd.R Kd.bool 4 w' w.heap.size (fun k_=>some k_≠((.slice (some ⟨ar,0,none⟩) bw.length aA):Value).ownBlock) (.slice (some ⟨ap,0,none⟩) ao.length aF) ao)∧Aside0 (Kd.R Kd.bool 4 w' w.heap.size (fun k_=>some k_≠((.slice (some ⟨ap,0,none⟩) ao.length aF):Value).ownBlock) (.slice (some ⟨ar,0,none⟩) bw.length aA) aC)∧Aside0 (w'.heap[aW]?=some (.cells #[(.slice bj ab.length aL),(.slice aI an.length aM),(.slice aJ aq.length aN)] 30 (0,0)))∧Aside0 (w'.heap[am]?=some (.cells #[(.slice none 0 0),(.slice none 0 0),(.slice none 0 0)] 30 (0,0)))∧Aside0 (Below w.heap.size w w'))
 case atStart=>exact ⟨(iI),(0),rfl,H',⟨Nat.le_refl _⟩,⟨by (try simp only [ah]);exact Kd.R_mono ae.out (fun _ hk=>hk.2)⟩,⟨by (try simp only [ah]);exact aK.out⟩,⟨by (try simp only [ah]);exact aa.out⟩,⟨by (try simp only [ah]);exact ac.out⟩,HB⟩
 clear H'
 clear cC fb fc fd fe ff fg eo eq ix cF cG cH cM cN cO bK
 obtain ⟨aC,az,rfl,HA,ci,ae,aw,aa,ac,HB⟩:=hrel
 have au:=(Kd.R_reads' aw.out).1
 rw [au] at aw
 (try simp only [au])
 (try simp only [au] at aa)
 (try simp only [au] at ac)
 (try simp only [au] at ae)
 obtain _ | k2:=gk
 ·exact absurd HA.out (by simp [rfTrim.l2])
 have H:=HA.out
 clear HA
 simp only [rfTrim.l2] at H
 by_cases cj:az < (an.length:Int)
 ·rw [if_pos cj] at H
  have cA:=decide_eq_true cj
  clear cj
  have cq:=Aside0.mk H
  clear H
  have lL:=aj.out
  have ma:=ak.out
  refine qc3 aa fun cI cJ cK cP cQ cR=>?_
  go_upto_region 30 with (fail)
  go_cut [109] (fun mI wc=>∃ (kq:Nat) (aY:Bool),mI=.bool aY∧Aside0 (rfTrim.j3 kq ao bc aC az aY ab an aq=some (r1,r2,r3))∧Aside0 (kq≤k2)∧Aside0 (Kd.R Kd.bool 4 wc w.heap.size (fun k_=>some k_≠((.slice (some ⟨ar,0,none⟩) aC.length aA):Value).ownBlock) (.slice (some ⟨ap,0,none⟩) ao.length aF) ao)∧Aside0 (Kd.R Kd.bool 4 wc w.heap.size (fun k_=>some k_≠((.slice (some ⟨ap,0,none⟩) ao.length aF):Value).ownBlock) (.slice (some ⟨ar,0,none⟩) aC.length aA) aC)∧Aside0 (wc.heap[aW]?=some (.cells #[(.slice bj ab.length aL),(.slice aI an.length aM),(.slice aJ aq.length aN)] 30 (0,0)))∧Aside0 (wc.heap[am]?=some (.cells #[(.slice none 0 0),(.slice none 0 0),(.slice none 0 0)] 30 (0,0)))∧Aside0 (Below w.heap.size w wc))
  case first =>
   have H:=cq.out
   clear cq
   replace H:=iNd H
   obtain ⟨ld,H⟩:=H
   replace H:=iNd H
   obtain ⟨le,H⟩:=H
   obtain ⟨gb,bV⟩:∃ b_:Bool,b_=(rdOf false aC az):=⟨_,rfl⟩
   rw [← bV] at H
   have cx:=Aside0.mk bV
   clear bV
   by_cases dq:gb=true
   ·subst dq
    replace H:=iP H
    have H':=Aside0.mk H
    clear H
    obtain ⟨cy,fj,mw,mC,aX⟩:=rob aw az
    (try rw [← cx.out] at aX)
    obtain rfl:(⟨ar,0,none⟩:Addr)=cy:=(by injection fj)
    (simp only [add_plain] at aX)
    have lM:=aj.out
    have mb:=ak.out
    refine qc3 aa fun gT gU gV hS hT hU=>?_
    obtain ⟨mY,lm,og,oj,kN,kO,kP,kQ,kR⟩:=rd35 aT HB az
    cases lm
    go_wp2
    go_meet
    case rel=>exact ⟨_,((((rdQ an az).f0) == 24)),rfl,H',⟨by have:=bA.out;have:=ci.out;(omega)⟩,⟨by (try simp only [ah]);(try simp only [au]);exact ae.out⟩,⟨by (try simp only [ah]);(try simp only [au]);exact aw.out⟩,⟨by (try simp only [ah]);(try simp only [au]);exact aa.out⟩,⟨by (try simp only [ah]);(try simp only [au]);exact ac.out⟩,HB⟩
   replace dq:=Bool.eq_false_iff.mpr dq
   subst dq
   replace H:=iF H
   have H':=Aside0.mk H
   clear H
   obtain ⟨cy,fj,mw,mC,aX⟩:=rob aw az
   (try rw [← cx.out] at aX)
   obtain rfl:(⟨ar,0,none⟩:Addr)=cy:=(by injection fj)
   (simp only [add_plain] at aX)
   go_wp2
   go_meet
   case rel=>exact ⟨_,(true),rfl,H',⟨by have:=bA.out;have:=ci.out;(omega)⟩,⟨by (try simp only [ah]);(try simp only [au]);exact ae.out⟩,⟨by (try simp only [ah]);(try simp only [au]);exact aw.out⟩,⟨by (try simp only [ah]);(try simp only [au]);exact aa.out⟩,⟨by (try simp only [ah]);(try simp only [au]);exact ac.out⟩,HB⟩
  clear cq
  clear cA cI cJ cK cP cQ cR
  obtain ⟨kq,aY,rfl,HA,bz,ae,aw,aa,ac,HB⟩:=hcut
  obtain _ | bS:=kq
  ·exact absurd HA.out (by simp [rfTrim.j3])
  have H:=HA.out
  clear HA
  simp only [rfTrim.j3] at H
  by_cases dr:aY=true
  ·subst dr
   replace H:=iP H
   have H':=Aside0.mk H
   clear H
   go_wp2
   (try simp only [← au])
   go_roundg bS
   case measure=>have:=bA.out;have:=ci.out;have:=bz.out;omega
   case rel=>exact ⟨(aC),(wrap64 (az+1)),rfl,H',⟨by have:=bA.out;have:=ci.out;have:=bz.out;omega⟩,⟨by (try simp only [ah]);(try simp only [au]);exact ae.out⟩,⟨by (try simp only [ah]);(try simp only [au]);exact aw.out⟩,⟨by (try simp only [ah]);(try simp only [au]);exact aa.out⟩,⟨by (try simp only [ah]);(try simp only [au]);exact ac.out⟩,HB⟩
  replace dr:=Bool.eq_false_iff.mpr dr
  subst dr
  replace H:=iF H
  obtain ⟨aE,cT⟩:∃ j_:Int,(wrap64 (az+1))=j_:=⟨_,rfl⟩
  rw [cT] at H
  have kI:(IntKind.i64.wrap (az+1))=aE:=(i64_w _).trans cT
  replace H:=iNd H
  obtain ⟨lf,H⟩:=H
  replace H:=iNd H
  obtain ⟨lg,H⟩:=H
  obtain ⟨cm,dg⟩:∃ y_:List Bool,y_=(aC.set ((aE):Int).toNat true):=⟨_,rfl⟩
  replace H:(if 0≤az then (if az < (an.length:Int) then (if ((rdQ an az).f0)=16 then (if 0≤((rdQ an az).f2) then (if ((rdQ an az).f2) < (aC.length:Int) then (rfTrim.l2 bS ao bc (cm.set (((rdQ an az).f2):Int).toNat true) aE ab an aq) else (none)) else (none)) else (rfTrim.l2 bS ao bc cm aE ab an aq)) else (none)) else (none))=some (r1,r2,r3):=by (have fN:=(Option.bind_some _ _).symm.trans H;rw [dg];with_reducible exact fN)
  have ex:=Aside0.mk dg
  clear dg
  replace H:=iNd H
  obtain ⟨lh,H⟩:=H
  replace H:=iNd H
  obtain ⟨li,H⟩:=H
  by_cases cB:((rdQ an az).f0)=16
  ·rw [if_pos cB] at H
   obtain ⟨fh,fi⟩:=cBt cB
   clear cB
   replace H:=iNd H
   obtain ⟨lj,H⟩:=H
   replace H:=iNd H
   obtain ⟨lk,H⟩:=H
   obtain ⟨iJ,dh⟩:∃ y_:List Bool,y_=(cm.set (((rdQ an az).f2):Int).toNat true):=⟨_,rfl⟩
   rw [← dh] at H
   have fZ:=Aside0.mk dh
   clear dh
   have H':=Aside0.mk H
   clear H
   have bX:0≤((aE):Int):=od
   have bY:((aE):Int) < ((aC.length:Int):Int):=od
   obtain ⟨eh,dN⟩:=Kd.R_celln false aw.out ((aE):Int) bX bY
   replace bX:=eq_true bX
   replace bY:=eq_true bY
   have cu:=Kd.R_putg aw.out ((aE):Int) true
   go_wp2_with (first | ((with_reducible refine gate_store (t:=4) (p:=113) rfl ?_);refine store_event (t:=4) (p:=113) (v:=?fF) (w1:=(wc.setCell ⟨ar,((aE):Int).toNat,none⟩ (.bool true))) ?hg ?ho ?hn ?hr ?_;(case ho=>rfl);(case hg=>rfl);(case hn=>rfl);(case hr=>(go_simp;done));intro dm hw;have hg:wc.grownBy dm (some ar):=(by rw [hw];exact cu.2);have hp_:Kd.R Kd.bool 4 dm w.heap.size (fun k_=>some k_≠(.slice (some ⟨ap,0,none⟩) ao.length aF:Value).ownBlock) (.slice (some ⟨ar,0,none⟩) aC.length aA) cm:=(by rw [hw,ex.out];exact cu.1);clear cu;replace ae:=Aside0.mk (Kd.R_after (v:=(.slice (some ⟨ar,0,none⟩) aC.length aA)) (v1:=(.slice (some ⟨ar,0,none⟩) aC.length aA)) (ok:=(fun _=>True)) (by exact Kd.R_mono ae.out (fun _ hk=>⟨trivial,hk⟩)) hg (.inl rfl));replace aa:=qg aa hg aw (by decide);replace ac:=qg ac hg aw (by decide);replace aw:=Aside0.mk hp_;replace HB:=Aside0.mk ((by rw [hw];exact b_st (HB.out) cc.out:Below w.heap.size w dm));clear hg hw hp_;have lN:=aj.out;have mc:=ak.out;refine qc3 aa fun gW gX gY hV hW hX=>?_;obtain ⟨ey,fk,mx,mD,ei,ej,ek,el,em⟩:=rd35 aT HB az;cases fk;obtain ⟨ga,ln,oh,ol,kS,kT,kU,kV,kW⟩:=rd35 aT HB az;obtain rfl:ey=ga:=(by injection ln);have fo:0≤(((rdQ an az).f2):Int):=od;have fq:(((rdQ an az).f2):Int) < ((aC.length:Int):Int):=od;obtain ⟨kK,jO⟩:=Kd.R_celln false aw.out (((rdQ an az).f2):Int) fo fq;replace fo:=eq_true fo;replace fq:=eq_true fq;obtain ⟨mr,mt⟩:=Kd.R_celln false aw.out (((rdQ an az).f2):Int) od od;have cv:=Kd.R_putg aw.out (((rdQ an az).f2):Int) true)|((with_reducible refine gate_store (t:=4) (p:=128) rfl ?_);refine store_event (t:=4) (p:=128) (v:=?fG) (w1:=(dm.setCell ⟨ar,(((rdQ an az).f2):Int).toNat,none⟩ (.bool true))) ?hg ?ho ?hn ?hr ?_;(case ho=>rfl);(case hg=>rfl);(case hn=>rfl);(case hr=>(go_simp;done));intro fu hw;have hg:dm.grownBy fu (some ar):=(by rw [hw];exact cv.2);have hp_:Kd.R Kd.bool 4 fu w.heap.size (fun k_=>some k_≠(.slice (some ⟨ap,0,none⟩) ao.length aF:Value).ownBlock) (.slice (some ⟨ar,0,none⟩) aC.length aA) iJ:=(by rw [hw,fZ.out];exact cv.1);clear cv;replace ae:=Aside0.mk (Kd.R_after (v:=(.slice (some ⟨ar,0,none⟩) aC.length aA)) (v1:=(.slice (some ⟨ar,0,none⟩) aC.length aA)) (ok:=(fun _=>True)) ae.out hg (.inl rfl));replace aa:=qg aa hg aw (by decide);replace ac:=qg ac hg aw (by decide);replace aw:=Aside0.mk hp_;replace HB:=Aside0.mk ((by rw [hw];exact b_st (HB.out) cc.out:Below w.heap.size w fu));clear hg hw hp_))
   (try simp only [← au])
   go_roundg bS
   case measure=>have:=bA.out;have:=ci.out;have:=bz.out;omega
   case rel=>exact ⟨(iJ),(aE),rfl,H',⟨by have:=bA.out;have:=ci.out;have:=bz.out;omega⟩,⟨by (try simp only [ah]);(try simp only [au]);exact Kd.R_mono ae.out (fun _ hk=>hk.2)⟩,⟨by (try simp only [ah]);(try simp only [au]);exact aw.out⟩,⟨by (try simp only [ah]);(try simp only [au]);exact aa.out⟩,⟨by (try simp only [ah]);(try simp only [au]);exact ac.out⟩,HB⟩
  rw [if_neg cB] at H
  obtain ⟨fh,fi⟩:=cBf cB
  have H':=Aside0.mk H
  clear H
  have bX:0≤((aE):Int):=od
  have bY:((aE):Int) < ((aC.length:Int):Int):=od
  obtain ⟨eh,dN⟩:=Kd.R_celln false aw.out ((aE):Int) bX bY
  replace bX:=eq_true bX
  replace bY:=eq_true bY
  have cw:=Kd.R_putg aw.out ((aE):Int) true
  go_wp2_with (first | ((with_reducible refine gate_store (t:=4) (p:=113) rfl ?_);refine store_event (t:=4) (p:=113) (v:=?fH) (w1:=(wc.setCell ⟨ar,((aE):Int).toNat,none⟩ (.bool true))) ?hg ?ho ?hn ?hr ?_;(case ho=>rfl);(case hg=>rfl);(case hn=>rfl);(case hr=>(go_simp;done));intro fv hw;have hg:wc.grownBy fv (some ar):=(by rw [hw];exact cw.2);have hp_:Kd.R Kd.bool 4 fv w.heap.size (fun k_=>some k_≠(.slice (some ⟨ap,0,none⟩) ao.length aF:Value).ownBlock) (.slice (some ⟨ar,0,none⟩) aC.length aA) cm:=(by rw [hw,ex.out];exact cw.1);clear cw;replace ae:=Aside0.mk (Kd.R_after (v:=(.slice (some ⟨ar,0,none⟩) aC.length aA)) (v1:=(.slice (some ⟨ar,0,none⟩) aC.length aA)) (ok:=(fun _=>True)) (by exact Kd.R_mono ae.out (fun _ hk=>⟨trivial,hk⟩)) hg (.inl rfl));replace aa:=qg aa hg aw (by decide);replace ac:=qg ac hg aw (by decide);replace aw:=Aside0.mk hp_;replace HB:=Aside0.mk ((by rw [hw];exact b_st (HB.out) cc.out:Below w.heap.size w fv));clear hg hw hp_;have lO:=aj.out;have md:=ak.out;refine qc3 aa fun gZ ha hc hY hZ ia=>?_;obtain ⟨ey,fk,mx,mD,ei,ej,ek,el,em⟩:=rd35 aT HB az;cases fk))
  (try simp only [← au])
  go_roundg bS
  case measure=>have:=bA.out;have:=ci.out;have:=bz.out;omega
  case rel=>exact ⟨(cm),(aE),rfl,H',⟨by have:=bA.out;have:=ci.out;have:=bz.out;omega⟩,⟨by (try simp only [ah]);(try simp only [au]);exact Kd.R_mono ae.out (fun _ hk=>hk.2)⟩,⟨by (try simp only [ah]);(try simp only [au]);exact aw.out⟩,⟨by (try simp only [ah]);(try simp only [au]);exact aa.out⟩,⟨by (try simp only [ah]);(try simp only [au]);exact ac.out⟩,HB⟩
 rw [if_neg cj] at H
 have cA:=decide_eq_false cj
 clear cj
 replace H:=Option.bind_eq_some_iff.mp H
 obtain ⟨⟨aH,aO,bN⟩,es,H⟩:=H
 try dsimp only at H
 have fI:=Aside0.mk es
 clear es
 by_cases ds:bc=true
 ·subst ds
  replace H:=iP H
  simp only [Option.some.injEq,Prod.mk.injEq] at H
  obtain ⟨rfl,rfl,rfl⟩:=H
  have lP:=aj.out
  have me:=ak.out
  refine qc3 aa fun he hf hh ib ic ie=>?_
  go_wp2_with (first | ((with_reducible refine gate_callee (f:=41) rfl ?_);refine goesL_ (some 132) rfl rfl Try.func41 (by kernel_rfl) rfl #[.agg #[.slice bj ab.length aL,.slice aI an.length aM,.slice aJ aq.length aN],.slice (some ⟨ap,0,none⟩) ao.length aF,.slice (some ⟨ar,0,none⟩) aC.length aA] rfl (by (try simp only [List.map_toArray,List.map_cons,List.map_nil]);(rfl)) ?_;(with_reducible refine (rfwithout.calls k2 _ _ ab _ _ an _ _ aq _ _ ao _ _ aC aH aO bN _ ?bD ?bE ?bF ?bG ?bH ?bI ?eS ?eT ?eU ?dn fI.out).mono ?_);(case bD=>exact (Kd.C_below aS.out HB.out));(case bE=>exact bO.out);(case bF=>exact (Kd.C_below aT.out HB.out));(case bG=>exact bP.out);(case bH=>exact (Kd.C_below bB.out HB.out));(case bI=>exact bQ.out);(case eS=>exact (Kd.R_reads' ae.out).2.2);(case eT=>exact (Kd.R_reads' ae.out).2.1);(case eU=>exact (Kd.R_reads' aw.out).2.2);(case dn=>exact (Kd.R_reads' aw.out).2.1);rintro e os ⟨mK,mL,mM,rfl,eK,eL,eM,hb⟩;refine ⟨_,rfl,?_⟩;replace ae:=qB ae hb;replace aw:=qB aw hb;have aQ:=ql eK HB;have aR:=ql eL HB;have bg:=ql eM HB;replace aa:=qb aa hb;replace ac:=qb ac hb;replace HB:=qs HB hb;(try clear hb);(try clear eK);(try clear eL);(try clear eM))|((with_reducible refine gate_dst (N:=10) rfl ?_);refine box_event ?hg (N:=10) ?hd (cs:=#[.slice none 0 0,.slice none 0 0,.slice none 0 0]) (t:=30) ?hr ?_;(case hd=>rfl);(case hg=>rfl);(case hr=>(go_simp;done));intro aD hg ot hbox hb;replace ae:=qB ae hb;replace aw:=qB aw hb;replace aQ:=qB aQ hb;replace aR:=qB aR hb;replace bg:=qB bg hb;have be:=Aside0.mk hbox;have fM:=qz HB hg;have co:=qz HB hg;replace HB:=qs HB hb;have aZ:=qn aa hg;have ba:=qN aa hg;replace aa:=qb aa hb;have ax:=qn ac hg;have bb:=qN ac hg;replace ac:=qb ac hb;clear hb hbox hg;obtain ⟨aP,aV,gu⟩:=Kd.R_slice aQ.out;subst gu;have lQ:=ba.out;have mf:=aZ.out;have lR:=bb.out;have mg:=ax.out;refine qc3 be fun hi hj hl ig ih ii=>?_;obtain ⟨bd,bi,gv⟩:=Kd.R_slice aR.out;subst gv;obtain ⟨bq,bt,gw⟩:=Kd.R_slice bg.out;subst gw;refine qc3 ac fun hm hp hq ij ik il=>?_))
  refine bodyPost_ret (results_cell_row rfl _ _ am 30 #[.slice aP aH.length aV,.slice bd aO.length bi,.slice bq bN.length bt] (0,0) _ rfl (by refine blk_put (cs:=#[.slice aP aH.length aV,.slice bd aO.length bi,.slice none 0 0]) ?_ 2 _ rfl;refine blk_put (cs:=#[.slice aP aH.length aV,.slice none 0 0,.slice none 0 0]) ?_ 1 _ rfl;refine blk_put (cs:=#[.slice none 0 0,.slice none 0 0,.slice none 0 0]) ?_ 0 _ rfl;refine blk_far ?_ ax.out _;refine blk_far ?_ ax.out _;refine blk_far ?_ ax.out _;exact ac.out) Try.underlying30 rfl (by kernel_rfl)) rfl ?_
  exact ⟨_,_,_,by (rfl),by exact Kd.R_mono (Kd.R_far (p:=⟨am,2,none⟩) (Kd.R_far (p:=⟨am,1,none⟩) (Kd.R_far (p:=⟨am,0,none⟩) (Kd.R_far (p:=⟨aD,2,none⟩) (Kd.R_far (p:=⟨aD,1,none⟩) (Kd.R_far (p:=⟨aD,0,none⟩) (Kd.R_types (Kd.R_types aQ.out be.out (by decide)) ac.out (by decide)) (fun _ hk=>hk.1.2) (.slice aP aH.length aV)) (fun _ hk=>hk.1.2) (.slice bd aO.length bi)) (fun _ hk=>hk.1.2) (.slice bq bN.length bt)) (fun _ hk=>hk.2) (.slice aP aH.length aV)) (fun _ hk=>hk.2) (.slice bd aO.length bi)) (fun _ hk=>hk.2) (.slice bq bN.length bt)) (fun _ hk=>hk.1.1),by exact Kd.R_mono (Kd.R_far (p:=⟨am,2,none⟩) (Kd.R_far (p:=⟨am,1,none⟩) (Kd.R_far (p:=⟨am,0,none⟩) (Kd.R_far (p:=⟨aD,2,none⟩) (Kd.R_far (p:=⟨aD,1,none⟩) (Kd.R_far (p:=⟨aD,0,none⟩) (Kd.R_types (Kd.R_types aR.out be.out (by decide)) ac.out (by decide)) (fun _ hk=>hk.1.2) (.slice aP aH.length aV)) (fun _ hk=>hk.1.2) (.slice bd aO.length bi)) (fun _ hk=>hk.1.2) (.slice bq bN.length bt)) (fun _ hk=>hk.2) (.slice aP aH.length aV)) (fun _ hk=>hk.2) (.slice bd aO.length bi)) (fun _ hk=>hk.2) (.slice bq bN.length bt)) (fun _ hk=>hk.1.1),by exact Kd.R_mono (Kd.R_far (p:=⟨am,2,none⟩) (Kd.R_far (p:=⟨am,1,none⟩) (Kd.R_far (p:=⟨am,0,none⟩) (Kd.R_far (p:=⟨aD,2,none⟩) (Kd.R_far (p:=⟨aD,1,none⟩) (Kd.R_far (p:=⟨aD,0,none⟩) (Kd.R_types (Kd.R_types bg.out be.out (by decide)) ac.out (by decide)) (fun _ hk=>hk.1.2) (.slice aP aH.length aV)) (fun _ hk=>hk.1.2) (.slice bd aO.length bi)) (fun _ hk=>hk.1.2) (.slice bq bN.length bt)) (fun _ hk=>hk.2) (.slice aP aH.length aV)) (fun _ hk=>hk.2) (.slice bd aO.length bi)) (fun _ hk=>hk.2) (.slice bq bN.length bt)) (fun _ hk=>trivial),by repeat ((with_reducible first | exact HB.out | refine b_st ?_ cd.out | refine b_st ?_ co.out))⟩
 replace ds:=Bool.eq_false_iff.mpr ds
 subst ds
 replace H:=iF H
 simp only [Option.some.injEq,Prod.mk.injEq] at H
 obtain ⟨rfl,rfl,rfl⟩:=H
 have lS:=aj.out
 have mh:=ak.out
 refine qc3 aa fun hs ht hu im io ip=>?_
 go_wp2_with (first | ((with_reducible refine gate_callee (f:=41) rfl ?_);refine goesL_ (some 132) rfl rfl Try.func41 (by kernel_rfl) rfl #[.agg #[.slice bj ab.length aL,.slice aI an.length aM,.slice aJ aq.length aN],.slice (some ⟨ap,0,none⟩) ao.length aF,.slice (some ⟨ar,0,none⟩) aC.length aA] rfl (by (try simp only [List.map_toArray,List.map_cons,List.map_nil]);(rfl)) ?_;(with_reducible refine (rfwithout.calls k2 _ _ ab _ _ an _ _ aq _ _ ao _ _ aC aH aO bN _ ?bD ?bE ?bF ?bG ?bH ?bI ?eS ?eT ?eU ?dn fI.out).mono ?_);(case bD=>exact (Kd.C_below aS.out HB.out));(case bE=>exact bO.out);(case bF=>exact (Kd.C_below aT.out HB.out));(case bG=>exact bP.out);(case bH=>exact (Kd.C_below bB.out HB.out));(case bI=>exact bQ.out);(case eS=>exact (Kd.R_reads' ae.out).2.2);(case eT=>exact (Kd.R_reads' ae.out).2.1);(case eU=>exact (Kd.R_reads' aw.out).2.2);(case dn=>exact (Kd.R_reads' aw.out).2.1);rintro e ou ⟨mK,mL,mM,rfl,eK,eL,eM,hb⟩;refine ⟨_,rfl,?_⟩;replace ae:=qB ae hb;replace aw:=qB aw hb;have aQ:=ql eK HB;have aR:=ql eL HB;have bg:=ql eM HB;replace aa:=qb aa hb;replace ac:=qb ac hb;replace HB:=qs HB hb;(try clear hb);(try clear eK);(try clear eL);(try clear eM))|((with_reducible refine gate_dst (N:=10) rfl ?_);refine box_event ?hg (N:=10) ?hd (cs:=#[.slice none 0 0,.slice none 0 0,.slice none 0 0]) (t:=30) ?hr ?_;(case hd=>rfl);(case hg=>rfl);(case hr=>(go_simp;done));intro aD hg ov hbox hb;replace ae:=qB ae hb;replace aw:=qB aw hb;replace aQ:=qB aQ hb;replace aR:=qB aR hb;replace bg:=qB bg hb;have be:=Aside0.mk hbox;have fM:=qz HB hg;have co:=qz HB hg;replace HB:=qs HB hb;have aZ:=qn aa hg;have ba:=qN aa hg;replace aa:=qb aa hb;have ax:=qn ac hg;have bb:=qN ac hg;replace ac:=qb ac hb;clear hb hbox hg;obtain ⟨br,bu,gx⟩:=Kd.R_slice aQ.out;subst gx;have lT:=ba.out;have mi:=aZ.out;have lU:=bb.out;have mj:=ax.out;refine qc3 be fun hv hx hy iq ir it=>?_;obtain ⟨bx,bC,gy⟩:=Kd.R_slice aR.out;subst gy;obtain ⟨mV,nl,gz⟩:=Kd.R_slice bg.out;subst gz;refine qc3 ac fun hz hA hB iu iv iw=>?_))
 refine bodyPost_ret (results_cell_row rfl _ _ am 30 #[.slice br aH.length bu,.slice bx aO.length bC,.slice none 0 0] (0,0) _ rfl (by refine blk_put (cs:=#[.slice br aH.length bu,.slice bx aO.length bC,.slice none 0 0]) ?_ 2 _ rfl;refine blk_put (cs:=#[.slice br aH.length bu,.slice none 0 0,.slice none 0 0]) ?_ 1 _ rfl;refine blk_put (cs:=#[.slice none 0 0,.slice none 0 0,.slice none 0 0]) ?_ 0 _ rfl;refine blk_far ?_ ax.out _;refine blk_far ?_ ax.out _;refine blk_far ?_ ax.out _;exact ac.out) Try.underlying30 rfl (by kernel_rfl)) rfl ?_
 exact ⟨_,_,_,by (rfl),by exact Kd.R_mono (Kd.R_far (p:=⟨am,2,none⟩) (Kd.R_far (p:=⟨am,1,none⟩) (Kd.R_far (p:=⟨am,0,none⟩) (Kd.R_far (p:=⟨aD,2,none⟩) (Kd.R_far (p:=⟨aD,1,none⟩) (Kd.R_far (p:=⟨aD,0,none⟩) (Kd.R_types (Kd.R_types aQ.out be.out (by decide)) ac.out (by decide)) (fun _ hk=>hk.1.2) (.slice br aH.length bu)) (fun _ hk=>hk.1.2) (.slice bx aO.length bC)) (fun _ hk=>hk.1.2) (.slice none 0 0)) (fun _ hk=>hk.2) (.slice br aH.length bu)) (fun _ hk=>hk.2) (.slice bx aO.length bC)) (fun _ hk=>hk.2) (.slice none 0 0)) (fun _ hk=>hk.1.1),by exact Kd.R_mono (Kd.R_far (p:=⟨am,2,none⟩) (Kd.R_far (p:=⟨am,1,none⟩) (Kd.R_far (p:=⟨am,0,none⟩) (Kd.R_far (p:=⟨aD,2,none⟩) (Kd.R_far (p:=⟨aD,1,none⟩) (Kd.R_far (p:=⟨aD,0,none⟩) (Kd.R_types (Kd.R_types aR.out be.out (by decide)) ac.out (by decide)) (fun _ hk=>hk.1.2) (.slice br aH.length bu)) (fun _ hk=>hk.1.2) (.slice bx aO.length bC)) (fun _ hk=>hk.1.2) (.slice none 0 0)) (fun _ hk=>hk.2) (.slice br aH.length bu)) (fun _ hk=>hk.2) (.slice bx aO.length bC)) (fun _ hk=>hk.2) (.slice none 0 0)) (fun _ hk=>hk.1.1),by (exact Kd.R_nil _ _ _ _ _),by repeat ((with_reducible first | exact HB.out | refine b_st ?_ cd.out | refine b_st ?_ co.out))⟩
end Go.Proofs.Ytedghbjmhcgilaa.POpt
end
