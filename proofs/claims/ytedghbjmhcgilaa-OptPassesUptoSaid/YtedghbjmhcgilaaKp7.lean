import Derived.Test.YtedghbjmhcgilaaKp5
set_option linter.unusedVariables false
set_option linter.unusedSimpArgs false
section
namespace Go.Proofs.Ytedghbjmhcgilaa.POpt
open Go.RowKit Go.Proofs.YtedghbjmhcgilaaW.PrintWords Go.Proofs.YtedghbjmhcgilaaW.PrintLast Go.Proofs.YtedghbjmhcgilaaW.PrintMore
mutual
def opt_reached.l0:Nat→List (S35)→List (S37)→List Bool→List Int→Option (List Bool)
  | 0,_,_,_,_=>none
  | k+1,x0,x1,x5,x6=>if (x6.length:Int) > 0 then (if 0≤(wrap64 ((x6.length:Int) - 1)) then (if (wrap64 ((x6.length:Int) - 1)) < (x6.length:Int) then (if (wrap64 ((x6.length:Int) - 1))≤(x6.length:Int) then ((some (x6.take ((wrap64 ((x6.length:Int) - 1)):Int).toNat:List Int)).bind fun y147=>(if (rd x6 (wrap64 ((x6.length:Int) - 1))) < 0 then (opt_reached.j1 k x0 x1 x5 y147 (rd x6 (wrap64 ((x6.length:Int) - 1))) true) else (if (rd x6 (wrap64 ((x6.length:Int) - 1))) ≥ (x0.length:Int) then (opt_reached.j1 k x0 x1 x5 y147 (rd x6 (wrap64 ((x6.length:Int) - 1))) true) else (if 0≤(rd x6 (wrap64 ((x6.length:Int) - 1))) then (if (rd x6 (wrap64 ((x6.length:Int) - 1))) < (x5.length:Int) then (opt_reached.j1 k x0 x1 x5 y147 (rd x6 (wrap64 ((x6.length:Int) - 1))) (rdOf false x5 (rd x6 (wrap64 ((x6.length:Int) - 1))))) else (none)) else (none))))) else (none)) else (none)) else (none)) else (some x5)
def opt_reached.j1:Nat→List (S35)→List (S37)→List Bool→List Int→Int→Bool→Option (List Bool)
  | 0,_,_,_,_,_,_=>none
  | k+1,x0,x1,x5,x6,x7,x42=>if x42=true then (opt_reached.l0 k x0 x1 x5 x6) else (if 0≤x7 then (if x7 < (x5.length:Int) then ((some (x5.set (x7:Int).toNat true:List Bool)).bind fun y151=>(if x7 < (x0.length:Int) then (if ((rdQ x0 x7).f0)=4 then (if x6.length < 17592186044416 then (opt_reached.l0 k x0 x1 y151 (x6 ++ [(rdQ x0 x7).f1])) else (none)) else (if ((rdQ x0 x7).f0)=3 then (if x6.length < 17592186044416 then (opt_reached.l1 k x0 x1 y151 (x6 ++ [(rdQ x0 x7).f1]) x1 (x1.length:Int) 0) else (none)) else (if ((rdQ x0 x7).f0)=2 then (opt_reached.j3 k x0 x1 y151 x6 x7 ((rdQ x0 x7).f0) (((rdQ x0 x7).f0) == 2) ((rdQ x0 x7).f0) ((rdQ x0 x7).f1) ((rdQ x0 x7).f2) ((rdQ x0 x7).f3) ((rdQ x0 x7).f4)) else (opt_reached.j3 k x0 x1 y151 x6 x7 ((rdQ x0 x7).f0) (((rdQ x0 x7).f0) == 16) ((rdQ x0 x7).f0) ((rdQ x0 x7).f1) ((rdQ x0 x7).f2) ((rdQ x0 x7).f3) ((rdQ x0 x7).f4))))) else (none))) else (none)) else (none))
def opt_reached.l1:Nat→List (S35)→List (S37)→List Bool→List Int→List (S37)→Int→Int→Option (List Bool)
  | 0,_,_,_,_,_,_,_=>none
  | k+1,x0,x1,x5,x6,x71,x72,x73=>if x73 < x72 then (if 0≤x73 then (if x73 < (x71.length:Int) then (if x6.length < 17592186044416 then (opt_reached.l1 k x0 x1 x5 (x6 ++ [(rdR x71 x73).f1]) x71 x72 (wrap64 (x73+1))) else (none)) else (none)) else (none)) else (opt_reached.l0 k x0 x1 x5 x6)
def opt_reached.j3:Nat→List (S35)→List (S37)→List Bool→List Int→Int→Int→Bool→Int→Int→Int→Int→Int→Option (List Bool)
  | 0,_,_,_,_,_,_,_,_,_,_,_,_=>none
  | k+1,x0,x1,x5,x6,x7,x51,x83,x154000,x154001,x154002,x154003,x154004=>if x83=true then ((some (([wrap64 (x7+1),x154002]:List Int):List Int)).bind fun y165=>(if x6.length+y165.length < 17592186044416 then (opt_reached.l0 k x0 x1 x5 (x6 ++ y165)) else (none))) else (if x51=24 then (opt_reached.l0 k x0 x1 x5 x6) else (if x6.length < 17592186044416 then (opt_reached.l0 k x0 x1 x5 (x6 ++ [wrap64 (x7+1)])) else (none)))
end
def opt_reached.f (k:Nat) (l0:List (S35)) (l1:List (S37)):Option (List Bool):=if 0≤(l0.length:Int) then (if ((l0.length:Int):Int).toNat≤281474976710656 then (opt_reached.l0 k l0 l1 (List.replicate ((l0.length:Int):Int).toNat false) (([0]:List Int))) else (none)) else (none)
theorem opt_reached.mono_l:∀ k,(∀ y0 y1 y2 y3,LeO (opt_reached.l0 k y0 y1 y2 y3) (opt_reached.l0 (k+1) y0 y1 y2 y3))∧(∀ y0 y1 y2 y3 y4 y5,LeO (opt_reached.j1 k y0 y1 y2 y3 y4 y5) (opt_reached.j1 (k+1) y0 y1 y2 y3 y4 y5))∧(∀ y0 y1 y2 y3 y4 y5 y6,LeO (opt_reached.l1 k y0 y1 y2 y3 y4 y5 y6) (opt_reached.l1 (k+1) y0 y1 y2 y3 y4 y5 y6))∧(∀ y0 y1 y2 y3 y4 y5 y6 y7 y8 y9 y10 y11,LeO (opt_reached.j3 k y0 y1 y2 y3 y4 y5 y6 y7 y8 y9 y10 y11) (opt_reached.j3 (k+1) y0 y1 y2 y3 y4 y5 y6 y7 y8 y9 y10 y11))
  | 0=>⟨fun _ _ _ _ r h=>by simp [opt_reached.l0] at h,fun _ _ _ _ _ _ r h=>by simp [opt_reached.j1] at h,fun _ _ _ _ _ _ _ r h=>by simp [opt_reached.l1] at h,fun _ _ _ _ _ _ _ _ _ _ _ _ r h=>by simp [opt_reached.j3] at h⟩
  | k+1=>by
    obtain ⟨ih0,ih1,ih2,ih3⟩:=opt_reached.mono_l k
    refine ⟨?_,?_,?_,?_⟩
    · intro y0 y1 y2 y3
      unfold opt_reached.l0
      repeat' first | (with_reducible exact ih1 _ _ _ _ _ _) | (with_reducible exact LeO.refl _) | (with_reducible refine LeO.ite ?_ ?_) | (with_reducible refine LeO.bind ?_ (fun _=>?_))
    · intro y0 y1 y2 y3 y4 y5
      unfold opt_reached.j1
      repeat' first | (with_reducible exact ih0 _ _ _ _) | (with_reducible exact ih2 _ _ _ _ _ _ _) | (with_reducible exact ih3 _ _ _ _ _ _ _ _ _ _ _ _) | (with_reducible exact LeO.refl _) | (with_reducible refine LeO.ite ?_ ?_) | (with_reducible refine LeO.bind ?_ (fun _=>?_))
    · intro y0 y1 y2 y3 y4 y5 y6
      unfold opt_reached.l1
      repeat' first | (with_reducible exact ih0 _ _ _ _) | (with_reducible exact ih2 _ _ _ _ _ _ _) | (with_reducible exact LeO.refl _) | (with_reducible refine LeO.ite ?_ ?_)
    · intro y0 y1 y2 y3 y4 y5 y6 y7 y8 y9 y10 y11
      unfold opt_reached.j3
      repeat' first | (with_reducible exact ih0 _ _ _ _) | (with_reducible exact LeO.refl _) | (with_reducible refine LeO.ite ?_ ?_) | (with_reducible refine LeO.bind ?_ (fun _=>?_))
theorem opt_reached.mono:∀ a0 a1 k,LeO (opt_reached.f k a0 a1) (opt_reached.f (k+1) a0 a1):=by
  intro a0 a1 k
  obtain ⟨ih0,ih1,ih2,ih3⟩:=opt_reached.mono_l k
  unfold opt_reached.f
  repeat' first | (with_reducible exact ih0 _ _ _ _) | (with_reducible exact LeO.refl _) | (with_reducible refine LeO.ite ?_ ?_)
set_option maxHeartbeats 8000000 in
set_option maxRecDepth 100000 in
theorem opt_reached.calls (k:Nat) (A0:Option Addr) (c0:Nat) (l0:List (S35)) (A1:Option Addr) (c1:Nat) (l1:List (S37)) (r:List Bool) (w:World) (eG:Kd.C k35 w A0 l0.length l0) (eS:l0.length≤c0) (eH:Kd.C k37 w A1 l1.length l1) (eT:l1.length≤c1) (h:opt_reached.f k l0 l1=some r) :
    Calls Try.prog 61 #[.slice A0 l0.length c0,.slice A1 l1.length c1] w fun e w'=>∃ eL:Value,e=.returned (eL)∧Kd.R Kd.bool 4 w' w.heap.size (fun _=>True) eL r∧Below w.heap.size w w':=by
 have eU:=Try.underlying35
 have eV:=Try.underlying37
 have dS:=Aside0.mk eG
 clear eG eS
 have eP:=Aside0.mk eH
 clear eH eT
 have HB:=Aside0.mk (Below.refl w.heap.size w)
 have H:(if 0≤(l0.length:Int) then (if ((l0.length:Int):Int).toNat≤281474976710656 then (opt_reached.l0 k l0 l1 (List.replicate ((l0.length:Int):Int).toNat false) (([0]:List Int))) else (none)) else (none))=some r:=h
 clear h
 replace H:=iNB H
 obtain ⟨dT,dU,H⟩:=H
 replace H:=iNB H
 obtain ⟨dV,dW,H⟩:=H
 obtain ⟨el,bl⟩:∃ y_:List Bool,y_=(List.replicate ((l0.length:Int):Int).toNat false):=⟨_,rfl⟩
 rw [← bl] at H
 have cE:=Aside0.mk bl
 clear bl
 obtain ⟨em,bm⟩:∃ y_:List Int,y_=(([0]:List Int)):=⟨_,rfl⟩
 rw [← bm] at H
 have cF:=Aside0.mk bm
 clear bm
 have H':=Aside0.mk H
 clear H
 go_enter Try.func61,Try.ntmps61
 go_wp2_with (first | ((with_reducible refine gate_dst (N:=13) rfl ?_);(try (refine gate_guard (by rfl) ?_;dsimp only));refine Kd.R_make Kd.bool _ 4 rfl (N:=13) rfl 55 _ _ rfl (l0.length:Int) rfl rfl Try.underlying55 (.bool false) 1 info4 rfl (by decide) (by omega) false (ok:=fun _=>True) (okp:=fun _=>True) rfl (fun _ hk=>hk) trivial od (Nat.le_trans (Nat.mul_le_mul_right _ (od:(l0.length:Int).toNat≤281474976710656)) (by omega)) (Below.refl _ _) (Nat.le_refl _) ?_;intro dg w5 eg hb hg_ hnew_;clear hg_ hnew_;(rw [← cE.out] at eg);have ba:=ql eg HB;replace HB:=qs HB hb;clear hb eg)|((with_reducible refine gate_dst (N:=14) rfl ?_);(try (refine gate_guard (by rfl) ?_;dsimp only));refine Kd.R_lit (Kd.int .i64) _ 3 ?hg (N:=14) ?hd (xs:=([0]:List Int)) (inner:=[.int .i64 0]) (ok:=fun _=>True) (okp:=fun _=>True) ?hr ?hp (fun _ hk=>hk) trivial (Below.refl _ _) (Nat.le_refl _) (by simp) ?_;(case hd=>rfl);(case hg=>rfl);(case hr=>(go_simp;done));(case hp=>exact (Reps.one (show Kd.M (Kd.int .i64) _ _ _ 0 [.int .i64 0] from rfl) (Reps.none _ _)));intro fa w7 eh hb hg_ hnew_;clear hg_ hnew_;(rw [← cF.out] at eh);replace ba:=qB ba hb;have ct:=ql eh HB;replace HB:=qs HB hb;clear hb eh))
 go_loopg [6] k (fun kq v6 w'=>∃ (aj:List Bool) (aa:List Int),Aside0 (opt_reached.l0 kq l0 l1 aj aa=some r)∧Aside0 (kq≤k)∧Aside0 (Kd.R Kd.bool 4 w' w.heap.size (fun _=>True) dg aj)∧Aside0 (Kd.R (Kd.int .i64) 3 w' w.heap.size (fun _=>True) v6 aa)∧Aside0 (Below w.heap.size w w'))
 case atStart=>exact ⟨(el),(em),H',⟨Nat.le_refl _⟩,ba,ct,HB⟩
 clear H'
 clear dT dU dV dW
 obtain ⟨aj,aa,HA,aA,ae,af,HB⟩:=hrel
 obtain _ | k1:=gk
 ·exact absurd HA.out (by simp [opt_reached.l0])
 have H:=HA.out
 clear HA
 simp only [opt_reached.l0] at H
 by_cases c9:(aa.length:Int) > 0
 ·rw [if_pos c9] at H
  have cY:decide (0 < (aa.length:Int))=true:=decide_eq_true c9
  have cZ:decide (0 < aa.length)=true:=decide_eq_true (by omega)
  clear c9
  obtain ⟨ab,cf⟩:∃ j_:Int,(wrap64 ((aa.length:Int) - 1))=j_:=⟨_,rfl⟩
  rw [cf] at H
  have ef:(IntKind.i64.wrap ((aa.length:Int) - 1))=ab:=(i64_w _).trans cf
  replace H:=iNd H
  obtain ⟨cM,H⟩:=H
  replace H:=iNd H
  obtain ⟨cN,H⟩:=H
  replace H:=iNB H
  obtain ⟨cO,cP,H⟩:=H
  obtain ⟨ag,bn⟩:∃ y_:List Int,y_=(aa.take ((ab):Int).toNat):=⟨_,rfl⟩
  replace H:(if (rd aa (ab)) < 0 then (opt_reached.j1 k1 l0 l1 aj ag (rd aa (ab)) true) else (if (rd aa (ab)) ≥ (l0.length:Int) then (opt_reached.j1 k1 l0 l1 aj ag (rd aa (ab)) true) else (if 0≤(rd aa (ab)) then (if (rd aa (ab)) < (aj.length:Int) then (opt_reached.j1 k1 l0 l1 aj ag (rd aa (ab)) (rdOf false aj (rd aa (ab)))) else (none)) else (none))))=some r:=by (have cr:=(Option.bind_some _ _).symm.trans H;rw [bn];with_reducible exact cr)
  have bZ:=Aside0.mk bn
  clear bn
  have cg:=Aside0.mk H
  clear H
  obtain ⟨eM,aM,eb⟩:=Kd.R_slice af.out
  subst eb
  have bV:0≤((ab):Int):=od
  have bW:(ab) < (aa.length:Int):=od
  obtain ⟨ay,dY,bT⟩:=Kd.at_int (Kd.R_reads' af.out).2.2 (ab) bV bW
  cases dY
  replace bV:=eq_true bV
  replace bW:=eq_true bW
  have dQ:((ab):Int)≤((aa.length:Int):Int):=od
  obtain ⟨i016,ce,_,db,_⟩:=info_parts info3
  have cm:=cut_to (P:=Try.prog) 78 3 .i64 Try.underlying78 ce (some ay) aa.length aM (ab) od dQ (Kd.R_reads' af.out).2.1
  have bS:=Kd.R_take (m:=((ab):Int).toNat) af.out (by omega)
  have dc:ag.length=((ab):Int).toNat:=(by rw [bZ.out,List.length_take];omega)
  rw [← bZ.out] at bS
  rw [← dc] at bS cm
  clear dc ce db af
  have bb:=Aside0.mk bS
  clear bS
  replace dQ:=eq_true dQ
  go_upto_region 6 with (fail)
  go_cut [42] (fun fh wc=>∃ (kq:Nat) (aE:Bool),fh=.bool aE∧Aside0 (opt_reached.j1 kq l0 l1 aj ag (rd aa (ab)) aE=some r)∧Aside0 (kq≤k1)∧Aside0 (Kd.R Kd.bool 4 wc w.heap.size (fun _=>True) dg aj)∧Aside0 (Kd.R (Kd.int .i64) 3 wc w.heap.size (fun _=>True) (.slice (some ay) ag.length aM) ag)∧Aside0 (Below w.heap.size w wc))
  case first =>
   have H:=cg.out
   clear cg
   by_cases cn:(rd aa (ab)) < 0
   ·rw [if_pos cn] at H
    have cQ:=decide_eq_true cn
    clear cn
    have H':=Aside0.mk H
    clear H
    go_wp2
    go_meet
    case rel=>exact ⟨_,(true),rfl,H',⟨by have:=aA.out;(omega)⟩,ae,bb,HB⟩
   rw [if_neg cn] at H
   have cQ:=decide_eq_false cn
   clear cn
   by_cases co:(rd aa (ab)) ≥ (l0.length:Int)
   ·rw [if_pos co] at H
    have cR:decide ((l0.length:Int)≤(rd aa (ab)))=true:=decide_eq_true co
    clear co
    have H':=Aside0.mk H
    clear H
    go_wp2
    go_meet
    case rel=>exact ⟨_,(true),rfl,H',⟨by have:=aA.out;(omega)⟩,ae,bb,HB⟩
   rw [if_neg co] at H
   have cR:decide ((l0.length:Int)≤(rd aa (ab)))=false:=decide_eq_false co
   clear co
   replace H:=iNd H
   obtain ⟨ev,H⟩:=H
   replace H:=iNd H
   obtain ⟨ew,H⟩:=H
   have H':=Aside0.mk H
   clear H
   obtain ⟨eN,eQ,ec⟩:=Kd.R_slice ae.out
   subst ec
   obtain ⟨et,dZ,eW,eY,dN⟩:=rob ae (rd aa (ab))
   cases dZ
   go_wp2
   go_meet
   case rel=>exact ⟨_,(rdOf false aj (rd aa (ab))),rfl,H',⟨by have:=aA.out;(omega)⟩,ae,bb,HB⟩
  clear cg
  clear cY cZ cM cN cO cP dQ bT bV bW
  obtain ⟨kq,aE,rfl,HA,ar,ae,af,HB⟩:=hcut
  obtain _ | aD:=kq
  ·exact absurd HA.out (by simp [opt_reached.j1])
  have H:=HA.out
  clear HA
  simp only [opt_reached.j1] at H
  by_cases dm:aE=true
  ·subst dm
   replace H:=iP H
   have H':=Aside0.mk H
   clear H
   go_wp2
   go_roundg aD
   case measure=>have:=aA.out;have:=ar.out;omega
   case rel=>exact ⟨(aj),(ag),H',⟨by have:=aA.out;have:=ar.out;omega⟩,ae,af,HB⟩
  replace dm:=Bool.eq_false_iff.mpr dm
  subst dm
  replace H:=iF H
  replace H:=iNd H
  obtain ⟨cb,H⟩:=H
  replace H:=iNd H
  obtain ⟨cc,H⟩:=H
  obtain ⟨aq,bo⟩:∃ y_:List Bool,y_=(aj.set ((rd aa (ab)):Int).toNat true):=⟨_,rfl⟩
  replace H:(if (rd aa (ab)) < (l0.length:Int) then (if ((rdQ l0 (rd aa (ab))).f0)=4 then (if ag.length < 17592186044416 then (opt_reached.l0 aD l0 l1 aq (ag ++ [(rdQ l0 (rd aa (ab))).f1])) else (none)) else (if ((rdQ l0 (rd aa (ab))).f0)=3 then (if ag.length < 17592186044416 then (opt_reached.l1 aD l0 l1 aq (ag ++ [(rdQ l0 (rd aa (ab))).f1]) l1 (l1.length:Int) 0) else (none)) else (if ((rdQ l0 (rd aa (ab))).f0)=2 then (opt_reached.j3 aD l0 l1 aq ag (rd aa (ab)) ((rdQ l0 (rd aa (ab))).f0) (((rdQ l0 (rd aa (ab))).f0) == 2) ((rdQ l0 (rd aa (ab))).f0) ((rdQ l0 (rd aa (ab))).f1) ((rdQ l0 (rd aa (ab))).f2) ((rdQ l0 (rd aa (ab))).f3) ((rdQ l0 (rd aa (ab))).f4)) else (opt_reached.j3 aD l0 l1 aq ag (rd aa (ab)) ((rdQ l0 (rd aa (ab))).f0) (((rdQ l0 (rd aa (ab))).f0) == 16) ((rdQ l0 (rd aa (ab))).f0) ((rdQ l0 (rd aa (ab))).f1) ((rdQ l0 (rd aa (ab))).f2) ((rdQ l0 (rd aa (ab))).f3) ((rdQ l0 (rd aa (ab))).f4))))) else (none))=some r:=by (have cr:=(Option.bind_some _ _).symm.trans H;rw [bo];with_reducible exact cr)
  have bc:=Aside0.mk bo
  clear bo
  replace H:=iNd H
  obtain ⟨cd,H⟩:=H
  by_cases cl:((rdQ l0 (rd aa (ab))).f0)=4
  ·rw [if_pos cl] at H
   obtain ⟨bd,be⟩:=cBt cl
   clear cl
   replace H:=iN H
   obtain ⟨ex,H⟩:=H
   have cz:=Aside0.mk ex
   clear ex
   obtain ⟨en,bp⟩:∃ y_:List Int,y_=(ag ++ [(rdQ l0 (rd aa (ab))).f1]):=⟨_,rfl⟩
   rw [← bp] at H
   have cG:=Aside0.mk bp
   clear bp
   have H':=Aside0.mk H
   clear H
   have aV:0≤((rd aa (ab)):Int):=od
   have aW:((rd aa (ab)):Int) < ((aj.length:Int):Int):=od
   obtain ⟨au,aI,aJ,aK,bj,da,aZ⟩:=Kd.R_form ae.out (by omega)
   (first | cases aJ | (injection aJ with ea_ en_ ec_;(fail);subst ec_;clear en_))
   have aY:=Aside0.mk aK
   clear aK bj aZ
   obtain ⟨aC,bk⟩:=Kd.R_celln false ae.out ((rd aa (ab)):Int) aV aW
   replace aV:=eq_true aV
   replace aW:=eq_true aW
   have ci:=Kd.R_putg ae.out ((rd aa (ab)):Int) true
   go_wp2_with (first | ((with_reducible refine gate_store (t:=4) (p:=45) rfl ?_);refine store_event (t:=4) (p:=45) (v:=?di) (w1:=(wc.setCell ⟨au,((rd aa (ab)):Int).toNat,none⟩ (.bool true))) ?hg ?ho ?hn ?hr ?_;(case ho=>rfl);(case hg=>rfl);(case hn=>rfl);(case hr=>(go_simp;done));intro ei hw;have hg:wc.grownBy ei (some au):=(by rw [hw];exact ci.2);have hp_:Kd.R Kd.bool 4 ei w.heap.size (fun _=>True) (.slice (some ⟨au,0,none⟩) aj.length aI) aq:=(by rw [hw,bc.out];exact ci.1);clear ci;replace af:=qo af ae (by decide) hg;replace ae:=Aside0.mk hp_;replace HB:=Aside0.mk ((by rw [hw];exact b_st (HB.out) aY.out:Below w.heap.size w ei));clear hg hw hp_;obtain ⟨ca,bi,aN,aQ,ak,al,am,an,ao⟩:=rd35 dS HB (rd aa (ab));cases bi)|((with_reducible refine gate_dst (N:=8) rfl ?_);(try (refine gate_guard (by rfl) ?_;dsimp only));refine box_event ?hg (N:=8) ?hd (cs:=#[.int .i64 0,.int .i64 0,.int .i64 0,.int .i64 0,.int .i64 0]) (t:=35) ?hr ?_;(case hd=>rfl);(case hg=>rfl);(case hr=>(go_simp;done));intro ad hg fk hbox hb;replace ae:=qB ae hb;replace af:=qB af hb;have ac:=Aside0.mk hbox;have bY:=qz HB hg;have aw:=qz HB hg;replace HB:=qs HB hb;clear hb hbox hg;refine qc5 ac fun dp dq dr ds dt dB dC dD dE dF=>?_)|((with_reducible refine gate_builtin (b:=.append) (xs:=#[.tmp 59,.tmp 62]) rfl ?_);(try (refine gate_guard (by rfl) ?_;dsimp only));at_builtin;refine Kd.R_append (Kd.int .i64) (w0:=w) w.heap.size rfl (.tmp 59) (.tmp 62) 78 3 (.int .i64 0) 8 rfl Try.underlying78 info3 rfl (by decide) (by omega) (.slice (some ay) ag.length aM) ag ((rdQ l0 (rd aa (ab))).f1) [.int .i64 ((rdQ l0 (rd aa (ab))).f1)] (fun _=>True) (fun _=>False) rfl (by (go_simp;done)) ?aP (fun _ hk=>hk.elim) ?aF ?aO ?aB ?aS ?aL ?_;(case aP=>exact rfl);(case aB=>exact (by repeat ((with_reducible first | exact HB.out | refine b_st ?_ aw.out))));(case aF=>exact (fun _ _=>trivial));(case aO=>exact (by exact Kd.R_mono (Kd.R_far (p:=⟨ad,4,none⟩) (Kd.R_far (p:=⟨ad,3,none⟩) (Kd.R_far (p:=⟨ad,2,none⟩) (Kd.R_far (p:=⟨ad,1,none⟩) (Kd.R_far (p:=⟨ad,0,none⟩) (Kd.R_types af.out ac.out (by decide)) (fun _ hk=>hk.2) (.int .i64 ((rdQ l0 (rd aa (ab))).f0))) (fun _ hk=>hk.2) (.int .i64 ((rdQ l0 (rd aa (ab))).f1))) (fun _ hk=>hk.2) (.int .i64 ((rdQ l0 (rd aa (ab))).f2))) (fun _ hk=>hk.2) (.int .i64 ((rdQ l0 (rd aa (ab))).f3))) (fun _ hk=>hk.2) (.int .i64 ((rdQ l0 (rd aa (ab))).f4))) (fun _ hk=>trivial)));(case aS=>exact (below_size (by repeat ((with_reducible first | exact HB.out | refine b_st ?_ aw.out)))));(case aL=>have:=cz.out;omega);intro fb fl ho hb hg hat;rw [← cG.out] at ho;replace ae:=Aside0.mk (Kd.R_over' (by exact (Kd.R_mono (Kd.R_far (p:=⟨ad,4,none⟩) (Kd.R_far (p:=⟨ad,3,none⟩) (Kd.R_far (p:=⟨ad,2,none⟩) (Kd.R_far (p:=⟨ad,1,none⟩) (Kd.R_far (p:=⟨ad,0,none⟩) (Kd.R_types ae.out ac.out (by decide)) (fun _ hk=>hk.2) (.int .i64 ((rdQ l0 (rd aa (ab))).f0))) (fun _ hk=>hk.2) (.int .i64 ((rdQ l0 (rd aa (ab))).f1))) (fun _ hk=>hk.2) (.int .i64 ((rdQ l0 (rd aa (ab))).f2))) (fun _ hk=>hk.2) (.int .i64 ((rdQ l0 (rd aa (ab))).f3))) (fun _ hk=>hk.2) (.int .i64 ((rdQ l0 (rd aa (ab))).f4))) (fun _ h_=>h_.1))) (Kd.R_typed (by exact (Kd.R_mono (Kd.R_far (p:=⟨ad,4,none⟩) (Kd.R_far (p:=⟨ad,3,none⟩) (Kd.R_far (p:=⟨ad,2,none⟩) (Kd.R_far (p:=⟨ad,1,none⟩) (Kd.R_far (p:=⟨ad,0,none⟩) (Kd.R_types af.out ac.out (by decide)) (fun _ hk=>hk.2) (.int .i64 ((rdQ l0 (rd aa (ab))).f0))) (fun _ hk=>hk.2) (.int .i64 ((rdQ l0 (rd aa (ab))).f1))) (fun _ hk=>hk.2) (.int .i64 ((rdQ l0 (rd aa (ab))).f2))) (fun _ hk=>hk.2) (.int .i64 ((rdQ l0 (rd aa (ab))).f3))) (fun _ hk=>hk.2) (.int .i64 ((rdQ l0 (rd aa (ab))).f4))) (fun _ h_=>h_.1)))) (by decide) hg);replace ac:=Aside0.mk (blk_grown (g:=ad) (o:=.cells #[.int .i64 ((rdQ l0 (rd aa (ab))).f0),.int .i64 ((rdQ l0 (rd aa (ab))).f1),.int .i64 ((rdQ l0 (rd aa (ab))).f2),.int .i64 ((rdQ l0 (rd aa (ab))).f3),.int .i64 ((rdQ l0 (rd aa (ab))).f4)] 35 (0,0)) (by refine blk_put (cs:=#[.int .i64 ((rdQ l0 (rd aa (ab))).f0),.int .i64 ((rdQ l0 (rd aa (ab))).f1),.int .i64 ((rdQ l0 (rd aa (ab))).f2),.int .i64 ((rdQ l0 (rd aa (ab))).f3),.int .i64 0]) ?_ 4 _ rfl;refine blk_put (cs:=#[.int .i64 ((rdQ l0 (rd aa (ab))).f0),.int .i64 ((rdQ l0 (rd aa (ab))).f1),.int .i64 ((rdQ l0 (rd aa (ab))).f2),.int .i64 0,.int .i64 0]) ?_ 3 _ rfl;refine blk_put (cs:=#[.int .i64 ((rdQ l0 (rd aa (ab))).f0),.int .i64 ((rdQ l0 (rd aa (ab))).f1),.int .i64 0,.int .i64 0,.int .i64 0]) ?_ 2 _ rfl;refine blk_put (cs:=#[.int .i64 ((rdQ l0 (rd aa (ab))).f0),.int .i64 0,.int .i64 0,.int .i64 0,.int .i64 0]) ?_ 1 _ rfl;refine blk_put (cs:=#[.int .i64 0,.int .i64 0,.int .i64 0,.int .i64 0,.int .i64 0]) ?_ 0 _ rfl;exact ac.out) hg (Kd.R_ne af.out ac.out (by decide)));replace HB:=Aside0.mk hb;have cu:=Aside0.mk ho;clear af;clear ho hb hg hat))
   go_roundg aD
   case measure=>have:=aA.out;have:=ar.out;omega
   case rel=>exact ⟨(aq),(en),H',⟨by have:=aA.out;have:=ar.out;omega⟩,ae,cu,HB⟩
  rw [if_neg cl] at H
  obtain ⟨bd,be⟩:=cBf cl
  by_cases cp:((rdQ l0 (rd aa (ab))).f0)=3
  ·rw [if_pos cp] at H
   obtain ⟨bf,bg⟩:=cBt cp
   clear cp
   replace H:=iN H
   obtain ⟨ey,H⟩:=H
   have cA:=Aside0.mk ey
   clear ey
   obtain ⟨eo,bq⟩:∃ y_:List Int,y_=(ag ++ [(rdQ l0 (rd aa (ab))).f1]):=⟨_,rfl⟩
   rw [← bq] at H
   have cH:=Aside0.mk bq
   clear bq
   have H':=Aside0.mk H
   clear H
   have aV:0≤((rd aa (ab)):Int):=od
   have aW:((rd aa (ab)):Int) < ((aj.length:Int):Int):=od
   obtain ⟨au,aI,aJ,aK,bj,da,aZ⟩:=Kd.R_form ae.out (by omega)
   (first | cases aJ | (injection aJ with ea_ en_ ec_;(fail);subst ec_;clear en_))
   have aY:=Aside0.mk aK
   clear aK bj aZ
   obtain ⟨aC,bk⟩:=Kd.R_celln false ae.out ((rd aa (ab)):Int) aV aW
   replace aV:=eq_true aV
   replace aW:=eq_true aW
   have cj:=Kd.R_putg ae.out ((rd aa (ab)):Int) true
   go_wp2_with (first | ((with_reducible refine gate_store (t:=4) (p:=45) rfl ?_);refine store_event (t:=4) (p:=45) (v:=?dj) (w1:=(wc.setCell ⟨au,((rd aa (ab)):Int).toNat,none⟩ (.bool true))) ?hg ?ho ?hn ?hr ?_;(case ho=>rfl);(case hg=>rfl);(case hn=>rfl);(case hr=>(go_simp;done));intro ej hw;have hg:wc.grownBy ej (some au):=(by rw [hw];exact cj.2);have hp_:Kd.R Kd.bool 4 ej w.heap.size (fun _=>True) (.slice (some ⟨au,0,none⟩) aj.length aI) aq:=(by rw [hw,bc.out];exact cj.1);clear cj;replace af:=qo af ae (by decide) hg;replace ae:=Aside0.mk hp_;replace HB:=Aside0.mk ((by rw [hw];exact b_st (HB.out) aY.out:Below w.heap.size w ej));clear hg hw hp_;obtain ⟨ca,bi,aN,aQ,ak,al,am,an,ao⟩:=rd35 dS HB (rd aa (ab));cases bi)|((with_reducible refine gate_dst (N:=8) rfl ?_);(try (refine gate_guard (by rfl) ?_;dsimp only));refine box_event ?hg (N:=8) ?hd (cs:=#[.int .i64 0,.int .i64 0,.int .i64 0,.int .i64 0,.int .i64 0]) (t:=35) ?hr ?_;(case hd=>rfl);(case hg=>rfl);(case hr=>(go_simp;done));intro ad hg fm hbox hb;replace ae:=qB ae hb;replace af:=qB af hb;have ac:=Aside0.mk hbox;have bY:=qz HB hg;have aw:=qz HB hg;replace HB:=qs HB hb;clear hb hbox hg;refine qc5 ac fun bw bx bz bA bB bH bI bJ bK bL=>?_)|((with_reducible refine gate_builtin (b:=.append) (xs:=#[.tmp 66,.tmp 69]) rfl ?_);(try (refine gate_guard (by rfl) ?_;dsimp only));at_builtin;refine Kd.R_append (Kd.int .i64) (w0:=w) w.heap.size rfl (.tmp 66) (.tmp 69) 78 3 (.int .i64 0) 8 rfl Try.underlying78 info3 rfl (by decide) (by omega) (.slice (some ay) ag.length aM) ag ((rdQ l0 (rd aa (ab))).f1) [.int .i64 ((rdQ l0 (rd aa (ab))).f1)] (fun _=>True) (fun _=>False) rfl (by (go_simp;done)) ?aP (fun _ hk=>hk.elim) ?aF ?aO ?aB ?aS ?aL ?_;(case aP=>exact rfl);(case aB=>exact (by repeat ((with_reducible first | exact HB.out | refine b_st ?_ aw.out))));(case aF=>exact (fun _ _=>trivial));(case aO=>exact (by exact Kd.R_mono (Kd.R_far (p:=⟨ad,4,none⟩) (Kd.R_far (p:=⟨ad,3,none⟩) (Kd.R_far (p:=⟨ad,2,none⟩) (Kd.R_far (p:=⟨ad,1,none⟩) (Kd.R_far (p:=⟨ad,0,none⟩) (Kd.R_types af.out ac.out (by decide)) (fun _ hk=>hk.2) (.int .i64 ((rdQ l0 (rd aa (ab))).f0))) (fun _ hk=>hk.2) (.int .i64 ((rdQ l0 (rd aa (ab))).f1))) (fun _ hk=>hk.2) (.int .i64 ((rdQ l0 (rd aa (ab))).f2))) (fun _ hk=>hk.2) (.int .i64 ((rdQ l0 (rd aa (ab))).f3))) (fun _ hk=>hk.2) (.int .i64 ((rdQ l0 (rd aa (ab))).f4))) (fun _ hk=>trivial)));(case aS=>exact (below_size (by repeat ((with_reducible first | exact HB.out | refine b_st ?_ aw.out)))));(case aL=>have:=cA.out;omega);intro fc fn ho hb hg hat;rw [← cH.out] at ho;replace ae:=Aside0.mk (Kd.R_over' (by exact (Kd.R_mono (Kd.R_far (p:=⟨ad,4,none⟩) (Kd.R_far (p:=⟨ad,3,none⟩) (Kd.R_far (p:=⟨ad,2,none⟩) (Kd.R_far (p:=⟨ad,1,none⟩) (Kd.R_far (p:=⟨ad,0,none⟩) (Kd.R_types ae.out ac.out (by decide)) (fun _ hk=>hk.2) (.int .i64 ((rdQ l0 (rd aa (ab))).f0))) (fun _ hk=>hk.2) (.int .i64 ((rdQ l0 (rd aa (ab))).f1))) (fun _ hk=>hk.2) (.int .i64 ((rdQ l0 (rd aa (ab))).f2))) (fun _ hk=>hk.2) (.int .i64 ((rdQ l0 (rd aa (ab))).f3))) (fun _ hk=>hk.2) (.int .i64 ((rdQ l0 (rd aa (ab))).f4))) (fun _ h_=>h_.1))) (Kd.R_typed (by exact (Kd.R_mono (Kd.R_far (p:=⟨ad,4,none⟩) (Kd.R_far (p:=⟨ad,3,none⟩) (Kd.R_far (p:=⟨ad,2,none⟩) (Kd.R_far (p:=⟨ad,1,none⟩) (Kd.R_far (p:=⟨ad,0,none⟩) (Kd.R_types af.out ac.out (by decide)) (fun _ hk=>hk.2) (.int .i64 ((rdQ l0 (rd aa (ab))).f0))) (fun _ hk=>hk.2) (.int .i64 ((rdQ l0 (rd aa (ab))).f1))) (fun _ hk=>hk.2) (.int .i64 ((rdQ l0 (rd aa (ab))).f2))) (fun _ hk=>hk.2) (.int .i64 ((rdQ l0 (rd aa (ab))).f3))) (fun _ hk=>hk.2) (.int .i64 ((rdQ l0 (rd aa (ab))).f4))) (fun _ h_=>h_.1)))) (by decide) hg);replace ac:=Aside0.mk (blk_grown (g:=ad) (o:=.cells #[.int .i64 ((rdQ l0 (rd aa (ab))).f0),.int .i64 ((rdQ l0 (rd aa (ab))).f1),.int .i64 ((rdQ l0 (rd aa (ab))).f2),.int .i64 ((rdQ l0 (rd aa (ab))).f3),.int .i64 ((rdQ l0 (rd aa (ab))).f4)] 35 (0,0)) (by refine blk_put (cs:=#[.int .i64 ((rdQ l0 (rd aa (ab))).f0),.int .i64 ((rdQ l0 (rd aa (ab))).f1),.int .i64 ((rdQ l0 (rd aa (ab))).f2),.int .i64 ((rdQ l0 (rd aa (ab))).f3),.int .i64 0]) ?_ 4 _ rfl;refine blk_put (cs:=#[.int .i64 ((rdQ l0 (rd aa (ab))).f0),.int .i64 ((rdQ l0 (rd aa (ab))).f1),.int .i64 ((rdQ l0 (rd aa (ab))).f2),.int .i64 0,.int .i64 0]) ?_ 3 _ rfl;refine blk_put (cs:=#[.int .i64 ((rdQ l0 (rd aa (ab))).f0),.int .i64 ((rdQ l0 (rd aa (ab))).f1),.int .i64 0,.int .i64 0,.int .i64 0]) ?_ 2 _ rfl;refine blk_put (cs:=#[.int .i64 ((rdQ l0 (rd aa (ab))).f0),.int .i64 0,.int .i64 0,.int .i64 0,.int .i64 0]) ?_ 1 _ rfl;refine blk_put (cs:=#[.int .i64 0,.int .i64 0,.int .i64 0,.int .i64 0,.int .i64 0]) ?_ 0 _ rfl;exact ac.out) hg (Kd.R_ne af.out ac.out (by decide)));replace HB:=Aside0.mk hb;have cv:=Aside0.mk ho;clear af;clear ho hb hg hat))
   go_loopg [6,73] aD (fun kq v6 fi w'=>∃ (aX:List Int) (ah:Int),fi=.int .i64 ah∧Aside0 (opt_reached.l1 kq l0 l1 aq aX l1 (l1.length:Int) ah=some r)∧Aside0 (kq≤aD)∧Aside0 (Kd.R Kd.bool 4 w' w.heap.size (fun _=>True) (.slice (some ⟨au,0,none⟩) aj.length aI) aq)∧Aside0 (Kd.R (Kd.int .i64) 3 w' w.heap.size (fun _=>True) v6 aX)∧Aside0 (w'.heap[ad]?=some (.cells #[.int .i64 ((rdQ l0 (rd aa (ab))).f0),.int .i64 ((rdQ l0 (rd aa (ab))).f1),.int .i64 ((rdQ l0 (rd aa (ab))).f2),.int .i64 ((rdQ l0 (rd aa (ab))).f3),.int .i64 ((rdQ l0 (rd aa (ab))).f4)] 35 (0,0)))∧Aside0 (Below w.heap.size w w'))
   case atStart=>exact ⟨(eo),(0),rfl,H',⟨Nat.le_refl _⟩,ae,cv,ac,HB⟩
   clear H'
   clear cb cc aV aW cd cl bd be bf bg bw bx bz bA bB bH bI bJ bK bL ak al am an ao aC aN aQ
   obtain ⟨aX,ah,rfl,HA,dl,ae,af,ac,HB⟩:=hrel
   have ap:=(Kd.R_reads' ae.out).1
   rw [ap] at ae
   (try simp only [ap])
   (try simp only [ap] at ac)
   (try simp only [ap] at af)
   obtain _ | k3:=gk
   ·exact absurd HA.out (by simp [opt_reached.l1])
   have H:=HA.out
   clear HA
   simp only [opt_reached.l1] at H
   by_cases cq:ah < (l1.length:Int)
   ·rw [if_pos cq] at H
    have cS:=decide_eq_true cq
    clear cq
    replace H:=iNd H
    obtain ⟨ez,H⟩:=H
    replace H:=iNd H
    obtain ⟨eA,H⟩:=H
    replace H:=iN H
    obtain ⟨eB,H⟩:=H
    have cB:=Aside0.mk eB
    clear eB
    obtain ⟨ep,br⟩:∃ y_:List Int,y_=(aX ++ [(rdR l1 ah).f1]):=⟨_,rfl⟩
    rw [← br] at H
    have cI:=Aside0.mk br
    clear br
    have H':=Aside0.mk H
    clear H
    obtain ⟨eu,ea,eX,eZ,dO,dP⟩:=rd37 eP HB ah
    cases ea
    go_wp2_with (first | ((with_reducible refine gate_dst (N:=10) rfl ?_);(try (refine gate_guard (by rfl) ?_;dsimp only));refine box_event ?hg (N:=10) ?hd (cs:=#[.int .i64 0,.int .i64 0]) (t:=37) ?hr ?_;(case hd=>rfl);(case hg=>rfl);(case hr=>(go_simp;done));intro az hg fo hbox hb;replace ae:=qB ae hb;replace af:=qB af hb;have ax:=Aside0.mk hbox;have es:=qz HB hg;have bX:=qz HB hg;replace HB:=qs HB hb;have av:=qn ac hg;have aU:=qN ac hg;replace ac:=qb ac hb;clear hb hbox hg;have eE:=aU.out;have eF:=av.out;refine qc2 ax fun du dv dG dH=>?_)|((with_reducible refine gate_builtin (b:=.append) (xs:=#[.tmp 77,.tmp 80]) rfl ?_);(try (refine gate_guard (by rfl) ?_;dsimp only));at_builtin;refine Kd.R_append (Kd.int .i64) (w0:=w) w.heap.size rfl (.tmp 77) (.tmp 80) 78 3 (.int .i64 0) 8 rfl Try.underlying78 info3 rfl (by decide) (by omega) u6 aX ((rdR l1 ah).f1) [.int .i64 ((rdR l1 ah).f1)] (fun _=>True) (fun _=>False) rfl (by (go_simp;done)) ?aP (fun _ hk=>hk.elim) ?aF ?aO ?aB ?aS ?aL ?_;(case aP=>exact rfl);(case aB=>exact (by repeat ((with_reducible first | exact HB.out | refine b_st ?_ bX.out))));(case aF=>exact (fun _ _=>trivial));(case aO=>exact (by exact Kd.R_mono (Kd.R_far (p:=⟨az,1,none⟩) (Kd.R_far (p:=⟨az,0,none⟩) (Kd.R_types af.out ax.out (by decide)) (fun _ hk=>hk.2) (.int .i64 ((rdR l1 ah).f0))) (fun _ hk=>hk.2) (.int .i64 ((rdR l1 ah).f1))) (fun _ hk=>trivial)));(case aS=>exact (below_size (by repeat ((with_reducible first | exact HB.out | refine b_st ?_ bX.out)))));(case aL=>have:=cB.out;omega);intro fd fp ho hb hg hat;rw [← cI.out] at ho;replace ae:=Aside0.mk (Kd.R_over' (by exact (Kd.R_mono (Kd.R_far (p:=⟨az,1,none⟩) (Kd.R_far (p:=⟨az,0,none⟩) (Kd.R_types ae.out ax.out (by decide)) (fun _ hk=>hk.2) (.int .i64 ((rdR l1 ah).f0))) (fun _ hk=>hk.2) (.int .i64 ((rdR l1 ah).f1))) (fun _ h_=>h_.1))) (Kd.R_typed (by exact (Kd.R_mono (Kd.R_far (p:=⟨az,1,none⟩) (Kd.R_far (p:=⟨az,0,none⟩) (Kd.R_types af.out ax.out (by decide)) (fun _ hk=>hk.2) (.int .i64 ((rdR l1 ah).f0))) (fun _ hk=>hk.2) (.int .i64 ((rdR l1 ah).f1))) (fun _ h_=>h_.1)))) (by decide) hg);replace ac:=Aside0.mk (blk_grown (g:=ad) (o:=.cells #[.int .i64 ((rdQ l0 (rd aa (ab))).f0),.int .i64 ((rdQ l0 (rd aa (ab))).f1),.int .i64 ((rdQ l0 (rd aa (ab))).f2),.int .i64 ((rdQ l0 (rd aa (ab))).f3),.int .i64 ((rdQ l0 (rd aa (ab))).f4)] 35 (0,0)) (by refine blk_far ?_ av.out _;refine blk_far ?_ av.out _;exact ac.out) hg (Kd.R_ne af.out ac.out (by decide)));replace ax:=Aside0.mk (blk_grown (g:=az) (o:=.cells #[.int .i64 ((rdR l1 ah).f0),.int .i64 ((rdR l1 ah).f1)] 37 (0,0)) (by refine blk_put (cs:=#[.int .i64 ((rdR l1 ah).f0),.int .i64 0]) ?_ 1 _ rfl;refine blk_put (cs:=#[.int .i64 0,.int .i64 0]) ?_ 0 _ rfl;exact ax.out) hg (Kd.R_ne af.out ax.out (by decide)));replace HB:=Aside0.mk hb;have cw:=Aside0.mk ho;clear af;clear ho hb hg hat))
    (try simp only [← ap])
    go_roundg k3
    case measure=>have:=aA.out;have:=ar.out;have:=dl.out;omega
    case rel=>exact ⟨(ep),(wrap64 (ah+1)),rfl,H',⟨by have:=aA.out;have:=ar.out;have:=dl.out;omega⟩,⟨by (try simp only [ap]);exact ae.out⟩,⟨by (try simp only [ap]);exact cw.out⟩,⟨by (try simp only [ap]);exact ac.out⟩,HB⟩
   rw [if_neg cq] at H
   have cS:=decide_eq_false cq
   clear cq
   have H':=Aside0.mk H
   clear H
   go_wp2
   (try simp only [← ap])
   go_roundg k3
   case measure=>have:=aA.out;have:=ar.out;have:=dl.out;omega
   case rel=>exact ⟨(aq),(aX),H',⟨by have:=aA.out;have:=ar.out;have:=dl.out;omega⟩,⟨by (try simp only [ap]);exact ae.out⟩,⟨by (try simp only [ap]);exact af.out⟩,HB⟩
  rw [if_neg cp] at H
  obtain ⟨bf,bg⟩:=cBf cp
  have ch:=Aside0.mk H
  clear H
  have aV:0≤((rd aa (ab)):Int):=od
  have aW:((rd aa (ab)):Int) < ((aj.length:Int):Int):=od
  obtain ⟨au,aI,aJ,aK,bj,da,aZ⟩:=Kd.R_form ae.out (by omega)
  (first | cases aJ | (injection aJ with ea_ en_ ec_;(fail);subst ec_;clear en_))
  have aY:=Aside0.mk aK
  clear aK bj aZ
  obtain ⟨aC,bk⟩:=Kd.R_celln false ae.out ((rd aa (ab)):Int) aV aW
  replace aV:=eq_true aV
  replace aW:=eq_true aW
  have ck:=Kd.R_putg ae.out ((rd aa (ab)):Int) true
  go_upto_if 83 with (first | ((with_reducible refine gate_store (t:=4) (p:=45) rfl ?_);refine store_event (t:=4) (p:=45) (v:=?dk) (w1:=(wc.setCell ⟨au,((rd aa (ab)):Int).toNat,none⟩ (.bool true))) ?hg ?ho ?hn ?hr ?_;(case ho=>rfl);(case hg=>rfl);(case hn=>rfl);(case hr=>(go_simp;done));intro ek hw;have hg:wc.grownBy ek (some au):=(by rw [hw];exact ck.2);have hp_:Kd.R Kd.bool 4 ek w.heap.size (fun _=>True) (.slice (some ⟨au,0,none⟩) aj.length aI) aq:=(by rw [hw,bc.out];exact ck.1);clear ck;have dd:=Aside0.mk (hp_);have de:=Aside0.mk (Kd.R_over' (v:=(.slice (some ⟨au,0,none⟩) aj.length aI)) af.out (Kd.R_typed ae.out) (by decide) hg);have df:=Aside0.mk ((by rw [hw];exact b_st (HB.out) aY.out:Below w.heap.size w ek));clear ae;clear af;clear HB;have ae:=dd;have af:=de;have HB:=df;clear dd de df;clear hg hw hp_;have aN:0≤((rd aa (ab)):Int):=od;have aQ:(rd aa (ab)) < (l0.length:Int):=od;obtain ⟨ca,bi,ak,al,am,an,ao⟩:=at_T35 dS.out (rd aa (ab)) aN aQ;cases bi;replace ak:=(HB.out.cell (World.block_lt_of_cell? w _ ak)).trans ak;replace al:=(HB.out.cell (World.block_lt_of_cell? w _ al)).trans al;replace am:=(HB.out.cell (World.block_lt_of_cell? w _ am)).trans am;replace an:=(HB.out.cell (World.block_lt_of_cell? w _ an)).trans an;replace ao:=(HB.out.cell (World.block_lt_of_cell? w _ ao)).trans ao;replace aN:=eq_true aN;replace aQ:=eq_true aQ)|((with_reducible refine gate_dst (N:=8) rfl ?_);(try (refine gate_guard (by rfl) ?_;dsimp only));refine box_event ?hg (N:=8) ?hd (cs:=#[.int .i64 0,.int .i64 0,.int .i64 0,.int .i64 0,.int .i64 0]) (t:=35) ?hr ?_;(case hd=>rfl);(case hg=>rfl);(case hr=>(go_simp;done));intro ad hg dh hbox hb;have dd:=Aside0.mk (Kd.R_below ae.out hb);have de:=Aside0.mk (Kd.R_below af.out hb);have df:=Aside0.mk (below_step HB.out hb);have eI:=Aside0.mk (hbox);have eJ:=Aside0.mk ((by rw [hg];exact (below_size HB.out):w.heap.size≤ad));have eK:=Aside0.mk ((by rw [hg];exact (below_size HB.out):w.heap.size≤ad));clear ae;clear af;clear HB;have ae:=dd;have af:=de;have HB:=df;have ac:=eI;have bY:=eJ;have aw:=eK;clear dd de df eI eJ eK;clear hb hbox hg;have bC:dh.cell? ⟨ad,0,none⟩=some (.int .i64 0):=(bk_c ac.out 0).trans rfl;have bD:dh.cell? ⟨ad,1,none⟩=some (.int .i64 0):=(bk_c ac.out 1).trans rfl;have bE:dh.cell? ⟨ad,2,none⟩=some (.int .i64 0):=(bk_c ac.out 2).trans rfl;have bF:dh.cell? ⟨ad,3,none⟩=some (.int .i64 0):=(bk_c ac.out 3).trans rfl;have bG:dh.cell? ⟨ad,4,none⟩=some (.int .i64 0):=(bk_c ac.out 4).trans rfl;have bM:=bk_f ac.out 0;have bN:=bk_f ac.out 1;have bO:=bk_f ac.out 2;have bP:=bk_f ac.out 3;have bQ:=bk_f ac.out 4))
  (try simp only [Act.put,s1,s2,s3])
  go_cut [83] (fun fj wc=>∃ (kq:Nat) (aG:Bool),fj=.bool aG∧Aside0 (opt_reached.j3 kq l0 l1 aq ag (rd aa (ab)) ((rdQ l0 (rd aa (ab))).f0) aG ((rdQ l0 (rd aa (ab))).f0) ((rdQ l0 (rd aa (ab))).f1) ((rdQ l0 (rd aa (ab))).f2) ((rdQ l0 (rd aa (ab))).f3) ((rdQ l0 (rd aa (ab))).f4)=some r)∧Aside0 (kq≤aD)∧Aside0 (Kd.R Kd.bool 4 wc w.heap.size (fun _=>True) (.slice (some ⟨au,0,none⟩) aj.length aI) aq)∧Aside0 (Kd.R (Kd.int .i64) 3 wc w.heap.size (fun _=>True) (.slice (some ay) ag.length aM) ag)∧Aside0 (wc.heap[ad]?=some (.cells #[.int .i64 ((rdQ l0 (rd aa (ab))).f0),.int .i64 ((rdQ l0 (rd aa (ab))).f1),.int .i64 ((rdQ l0 (rd aa (ab))).f2),.int .i64 ((rdQ l0 (rd aa (ab))).f3),.int .i64 ((rdQ l0 (rd aa (ab))).f4)] 35 (0,0)))∧Aside0 (Below w.heap.size w wc))
  case first =>
   have H:=ch.out
   clear ch
   by_cases cT:((rdQ l0 (rd aa (ab))).f0)=2
   ·rw [if_pos cT] at H
    obtain ⟨bh,cU⟩:=cBt cT
    clear cT
    (rw [bh])
    have H':=Aside0.mk H
    clear H
    go_wp2
    go_meet
    case rel=>exact ⟨_,((((rdQ l0 (rd aa (ab))).f0) == 2)),(by (simp [*];done)),H',⟨by have:=aA.out;have:=ar.out;(omega)⟩,zRm ae ac (by decide) kb5 (fun _ _=>trivial),zRm af ac (by decide) kb5 (fun _ _=>trivial),⟨by refine blk_put (cs:=#[.int .i64 ((rdQ l0 (rd aa (ab))).f0),.int .i64 ((rdQ l0 (rd aa (ab))).f1),.int .i64 ((rdQ l0 (rd aa (ab))).f2),.int .i64 ((rdQ l0 (rd aa (ab))).f3),.int .i64 0]) ?_ 4 _ rfl;refine blk_put (cs:=#[.int .i64 ((rdQ l0 (rd aa (ab))).f0),.int .i64 ((rdQ l0 (rd aa (ab))).f1),.int .i64 ((rdQ l0 (rd aa (ab))).f2),.int .i64 0,.int .i64 0]) ?_ 3 _ rfl;refine blk_put (cs:=#[.int .i64 ((rdQ l0 (rd aa (ab))).f0),.int .i64 ((rdQ l0 (rd aa (ab))).f1),.int .i64 0,.int .i64 0,.int .i64 0]) ?_ 2 _ rfl;refine blk_put (cs:=#[.int .i64 ((rdQ l0 (rd aa (ab))).f0),.int .i64 0,.int .i64 0,.int .i64 0,.int .i64 0]) ?_ 1 _ rfl;refine blk_put (cs:=#[.int .i64 0,.int .i64 0,.int .i64 0,.int .i64 0,.int .i64 0]) ?_ 0 _ rfl;exact ac.out⟩,⟨by repeat ((with_reducible first | exact HB.out | refine b_st ?_ aw.out))⟩⟩
   rw [if_neg cT] at H
   obtain ⟨bh,cU⟩:=cBf cT
   (rw [bh])
   have H':=Aside0.mk H
   clear H
   go_wp2
   go_meet
   case rel=>exact ⟨_,((((rdQ l0 (rd aa (ab))).f0) == 16)),rfl,H',⟨by have:=aA.out;have:=ar.out;(omega)⟩,zRm ae ac (by decide) kb5 (fun _ _=>trivial),zRm af ac (by decide) kb5 (fun _ _=>trivial),⟨by refine blk_put (cs:=#[.int .i64 ((rdQ l0 (rd aa (ab))).f0),.int .i64 ((rdQ l0 (rd aa (ab))).f1),.int .i64 ((rdQ l0 (rd aa (ab))).f2),.int .i64 ((rdQ l0 (rd aa (ab))).f3),.int .i64 0]) ?_ 4 _ rfl;refine blk_put (cs:=#[.int .i64 ((rdQ l0 (rd aa (ab))).f0),.int .i64 ((rdQ l0 (rd aa (ab))).f1),.int .i64 ((rdQ l0 (rd aa (ab))).f2),.int .i64 0,.int .i64 0]) ?_ 3 _ rfl;refine blk_put (cs:=#[.int .i64 ((rdQ l0 (rd aa (ab))).f0),.int .i64 ((rdQ l0 (rd aa (ab))).f1),.int .i64 0,.int .i64 0,.int .i64 0]) ?_ 2 _ rfl;refine blk_put (cs:=#[.int .i64 ((rdQ l0 (rd aa (ab))).f0),.int .i64 0,.int .i64 0,.int .i64 0,.int .i64 0]) ?_ 1 _ rfl;refine blk_put (cs:=#[.int .i64 0,.int .i64 0,.int .i64 0,.int .i64 0,.int .i64 0]) ?_ 0 _ rfl;exact ac.out⟩,⟨by repeat ((with_reducible first | exact HB.out | refine b_st ?_ aw.out))⟩⟩
  clear ch
  clear cb cc aV aW cd cl bd be cp bf bg bC bD bE bF bG bM bN bO bP bQ ak al am an ao aC aN aQ
  obtain ⟨kq,aG,rfl,HA,aT,ae,af,ac,HB⟩:=hcut
  have ai:=(Kd.R_reads' ae.out).1
  rw [ai] at ae
  (try simp only [ai])
  (try simp only [ai] at ac)
  (try simp only [ai] at af)
  obtain _ | bU:=kq
  ·exact absurd HA.out (by simp [opt_reached.j3])
  have H:=HA.out
  clear HA
  simp only [opt_reached.j3] at H
  by_cases dn:aG=true
  ·subst dn
   replace H:=iP H
   obtain ⟨bv,bs⟩:∃ y_:List Int,y_=(([wrap64 ((rd aa (ab))+1),((rdQ l0 (rd aa (ab))).f2)]:List Int)):=⟨_,rfl⟩
   replace H:(if ag.length+bv.length < 17592186044416 then (opt_reached.l0 bU l0 l1 aq (ag ++ bv)) else (none))=some r:=by (have cr:=(Option.bind_some _ _).symm.trans H;rw [bs];with_reducible exact cr)
   have cJ:=Aside0.mk bs
   clear bs
   replace H:=iN H
   obtain ⟨eC,H⟩:=H
   have cC:=Aside0.mk eC
   clear eC
   obtain ⟨eq,bt⟩:∃ y_:List Int,y_=(ag ++ bv):=⟨_,rfl⟩
   rw [← bt] at H
   have cK:=Aside0.mk bt
   clear bt
   have H':=Aside0.mk H
   clear H
   refine qc5 ac fun dw dx dy dz dA dI dJ dK dL dM=>?_
   go_wp2_with (first | ((with_reducible refine gate_dst (N:=91) rfl ?_);(try (refine gate_guard (by rfl) ?_;dsimp only));refine Kd.R_lit (Kd.int .i64) _ 3 ?hg (N:=91) ?hd (xs:=([wrap64 ((rd aa (ab))+1),((rdQ l0 (rd aa (ab))).f2)]:List Int)) (inner:=[.int .i64 (wrap64 ((rd aa (ab))+1)),.int .i64 ((rdQ l0 (rd aa (ab))).f2)]) (ok:=fun _=>True) (okp:=fun _=>True) ?hr ?hp (fun _ hk=>hk) trivial (Below.refl _ _) (Nat.le_refl _) (by simp) ?_;(case hd=>rfl);(case hg=>rfl);(case hr=>(go_simp;done));(case hp=>exact (Reps.one (show Kd.M (Kd.int .i64) _ _ _ (wrap64 ((rd aa (ab))+1)) [.int .i64 (wrap64 ((rd aa (ab))+1))] from rfl) (Reps.one (show Kd.M (Kd.int .i64) _ _ _ ((rdQ l0 (rd aa (ab))).f2) [.int .i64 ((rdQ l0 (rd aa (ab))).f2)] from rfl) (Reps.none _ _))));intro fe fq bR hb hg_ hnew_;clear hg_ hnew_;(rw [← cJ.out] at bR);replace ae:=qB ae hb;have aH:=ql (qw bR af) HB;replace af:=qe af bR hb;replace ac:=qb ac hb;replace HB:=qs HB hb;clear hb bR;obtain ⟨dR,dX,ed⟩:=Kd.R_slice aH.out;subst ed)|((with_reducible refine gate_builtin (b:=.append) (xs:=#[.tmp 86,.tmp 91]) rfl ?_);(try (refine gate_guard (by rfl) ?_;dsimp only));at_builtin;refine Kd.R_append_rows (Kd.int .i64) (w0:=w) w.heap.size rfl (.tmp 86) (.tmp 91) 78 3 (.int .i64 0) 8 rfl Try.underlying78 info3 rfl (by decide) (by omega) (.slice (some ay) ag.length aM) ag bv _ _ _ (fun k_=>some k_≠(.slice dR bv.length dX:Value).ownBlock) (fun _=>False) rfl rfl ?aO ?aR (fun _ _ h=>h) (fun _ h=>h.elim) ?aF ?aB ?aS ?aL ?_;(case aR=>exact (Kd.R_reads' aH.out).2.2);(case aB=>exact HB.out);(case aF=>exact (fun k_ hk=>Kd.fresh' (Kd.R_lt aH.out) k_ hk));(case aO=>exact (by exact Kd.R_mono af.out (fun _ hk=>hk.2)));(case aS=>exact (below_size HB.out));(case aL=>have:=cC.out;omega);intro ff fr ho hb hg hat;rw [← cK.out] at ho;replace ae:=qo ae af (by decide) hg;replace ac:=qg ac hg af (by decide);replace aH:=Aside0.mk (Kd.R_after (ok:=(fun _=>True)) aH.out hg hat);replace HB:=Aside0.mk hb;have cx:=Aside0.mk ho;clear af;clear ho hb hg hat))
   (try simp only [← ai])
   go_roundg bU
   case measure=>have:=aA.out;have:=ar.out;have:=aT.out;omega
   case rel=>exact ⟨(aq),(eq),H',⟨by have:=aA.out;have:=ar.out;have:=aT.out;omega⟩,⟨by (try simp only [ai]);exact ae.out⟩,⟨by (try simp only [ai]);exact Kd.R_mono cx.out (fun _ hk=>trivial)⟩,HB⟩
  replace dn:=Bool.eq_false_iff.mpr dn
  subst dn
  replace H:=iF H
  by_cases cV:((rdQ l0 (rd aa (ab))).f0)=24
  ·rw [if_pos cV] at H
   obtain ⟨cW,cX⟩:=cBt cV
   clear cV
   have H':=Aside0.mk H
   clear H
   go_wp2
   (try simp only [← ai])
   go_roundg bU
   case measure=>have:=aA.out;have:=ar.out;have:=aT.out;omega
   case rel=>exact ⟨(aq),(ag),H',⟨by have:=aA.out;have:=ar.out;have:=aT.out;omega⟩,⟨by (try simp only [ai]);exact ae.out⟩,⟨by (try simp only [ai]);exact af.out⟩,HB⟩
  rw [if_neg cV] at H
  obtain ⟨cW,cX⟩:=cBf cV
  replace H:=iN H
  obtain ⟨eD,H⟩:=H
  have cD:=Aside0.mk eD
  clear eD
  obtain ⟨er,bu⟩:∃ y_:List Int,y_=(ag ++ [wrap64 ((rd aa (ab))+1)]):=⟨_,rfl⟩
  rw [← bu] at H
  have cL:=Aside0.mk bu
  clear bu
  have H':=Aside0.mk H
  clear H
  go_wp2_with (((with_reducible refine gate_builtin (b:=.append) (xs:=#[.tmp 52,.tmp 55]) rfl ?_);(try (refine gate_guard (by rfl) ?_;dsimp only));at_builtin;refine Kd.R_append (Kd.int .i64) (w0:=w) w.heap.size rfl (.tmp 52) (.tmp 55) 78 3 (.int .i64 0) 8 rfl Try.underlying78 info3 rfl (by decide) (by omega) (.slice (some ay) ag.length aM) ag (wrap64 ((rd aa (ab))+1)) [.int .i64 (wrap64 ((rd aa (ab))+1))] (fun _=>True) (fun _=>False) rfl rfl ?aP (fun _ hk=>hk.elim) ?aF ?aO ?aB ?aS ?aL ?_;(case aP=>exact rfl);(case aB=>exact HB.out);(case aF=>exact (fun _ _=>trivial));(case aO=>exact af.out);(case aS=>exact (below_size HB.out));(case aL=>have:=cD.out;omega);intro fg fs ho hb hg hat;rw [← cL.out] at ho;replace ae:=qo ae af (by decide) hg;replace ac:=qg ac hg af (by decide);replace HB:=Aside0.mk hb;have cy:=Aside0.mk ho;clear af;clear ho hb hg hat))
  (try simp only [← ai])
  go_roundg bU
  case measure=>have:=aA.out;have:=ar.out;have:=aT.out;omega
  case rel=>exact ⟨(aq),(er),H',⟨by have:=aA.out;have:=ar.out;have:=aT.out;omega⟩,⟨by (try simp only [ai]);exact ae.out⟩,⟨by (try simp only [ai]);exact cy.out⟩,HB⟩
 rw [if_neg c9] at H
 have cY:decide (0 < (aa.length:Int))=false:=decide_eq_false c9
 have cZ:decide (0 < aa.length)=false:=decide_eq_false (by omega)
 clear c9
 obtain rfl:=Option.some.inj H
 obtain ⟨eO,eR,ee⟩:=Kd.R_slice af.out
 subst ee
 go_wp2
 go_ret
 exact ⟨_,by (rfl),by exact ae.out,HB.out⟩
end Go.Proofs.Ytedghbjmhcgilaa.POpt
end
