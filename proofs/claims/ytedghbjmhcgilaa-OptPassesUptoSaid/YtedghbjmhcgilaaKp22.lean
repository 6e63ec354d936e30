import Derived.Test.YtedghbjmhcgilaaKp5
import Derived.Test.YtedghbjmhcgilaaKp6
import Derived.Test.YtedghbjmhcgilaaKp9
import Derived.Test.YtedghbjmhcgilaaKp10
import Derived.Test.YtedghbjmhcgilaaKp11
import Derived.Test.YtedghbjmhcgilaaKp19
import Derived.Test.YtedghbjmhcgilaaKp21
set_option linter.unusedVariables false
set_option linter.unusedSimpArgs false
section
namespace Go.Proofs.Ytedghbjmhcgilaa.POpt
open Go.RowKit Go.Proofs.YtedghbjmhcgilaaW.PrintWords Go.Proofs.YtedghbjmhcgilaaW.PrintLast Go.Proofs.YtedghbjmhcgilaaW.PrintMore
def lwOptPasses.j0:Nat→Int→Bool→List (S30)→Option (Bool)
  | 0,_,_,_=>none
  | k+1,x1,x21,x559000=>if x21=true then (some true) else (if 0≤x1 then (if x1 < (x559000.length:Int) then ((opt_Tables.f ((rdP x559000 x1).f0) ((rdP x559000 x1).f1) ((rdP x559000 x1).f2)).bind fun bt563=>((rfTables.f k ((rdP x559000 x1).f0) ((rdP x559000 x1).f1) ((rdP x559000 x1).f2)).bind fun bt572=>((lwsame.f k bt563.1 bt563.2.1 bt563.2.2 bt572.1 bt572.2.1 bt572.2.2).bind fun t581=>(if t581=true then ((opt_Fuse.f ((rdP x559000 x1).f0) ((rdP x559000 x1).f1) ((rdP x559000 x1).f2)).bind fun bt582=>((rfFuse.f k ((rdP x559000 x1).f0) ((rdP x559000 x1).f1) ((rdP x559000 x1).f2)).bind fun bt591=>((lwsame.f k bt582.1 bt582.2.1 bt582.2.2 bt591.1 bt591.2.1 bt591.2.2).bind fun t600=>(if t600=true then ((opt_Thread.f ((rdP x559000 x1).f0) ((rdP x559000 x1).f1) ((rdP x559000 x1).f2)).bind fun bt601=>((rfThread.f k ((rdP x559000 x1).f0) ((rdP x559000 x1).f1) ((rdP x559000 x1).f2)).bind fun bt610=>((lwsame.f k bt601.1 bt601.2.1 bt601.2.2 bt610.1 bt610.2.1 bt610.2.2).bind fun t619=>(if t619=true then ((opt_Trim.f k ((rdP x559000 x1).f0) ((rdP x559000 x1).f1) ((rdP x559000 x1).f2)).bind fun bt620=>((rfTrim.f k ((rdP x559000 x1).f0) ((rdP x559000 x1).f1) ((rdP x559000 x1).f2)).bind fun bt629=>((lwsame.f k bt620.1 bt620.2.1 bt620.2.2 bt629.1 bt629.2.1 bt629.2.2).bind fun t638=>(if t638=true then ((opt_Block.f k ((rdP x559000 x1).f0) ((rdP x559000 x1).f1) ((rdP x559000 x1).f2)).bind fun bt639=>((rfBlock.f k ((rdP x559000 x1).f0) ((rdP x559000 x1).f1) ((rdP x559000 x1).f2)).bind fun bt648=>((lwsame.f k bt639.1 bt639.2.1 bt639.2.2 bt648.1 bt648.2.1 bt648.2.2).bind fun t657=>(some t657)))) else (some false))))) else (some false))))) else (some false))))) else (some false))))) else (none)) else (none))
def lwOptPasses.f (k:Nat) (l0_0:List (S30)) (a1:Int):Option (Bool):=(lwawake.f k).bind fun t559=>(if t559=true then ((rgValid.f k l0_0).bind fun t560=>(if t560=true then (if a1 < 0 then (lwOptPasses.j0 k a1 true l0_0) else (lwOptPasses.j0 k a1 (decide (a1 ≥ (l0_0.length:Int))) l0_0)) else (lwOptPasses.j0 k a1 true l0_0))) else (some false))
def lwOptPasses.T6:Bool × List (List Nat × List Nat):=(true,[([],[]),([0],[0]),([],[]),([2,1],[2]),([1,3,3],[1,3]),([4,4],[4]),([5],[5]),([6,5,5],[5,6]),([5],[5]),([8,7,5],[5,8]),([7,9,9,5],[5,7,9]),([5,10],[5,10]),([11,10],[11]),([12],[12]),([13,12,12],[12,13]),([12],[12]),([15,14,12],[12,15]),([14,16,16,12],[12,14,16]),([12,17],[12,17]),([18,17],[18]),([19],[19]),([20,19,19],[19,20]),([19],[19]),([22,21,19],[19,22]),([21,23,23,19],[19,21,23]),([19,24],[19,24]),([25,24],[25]),([26],[26]),([27,26,26],[26,27]),([26],[26]),([29,28,26],[26,29]),([28,30,30,26],[26,28,30]),([26,31],[26,31]),([32,31,0,1,2,3,4,5,6,7,8,9,10,11,12,13,14,15,16,17,18,19,20,21,22,23,24,25,26,27,28,29,30,31,32],[32])])
def lwOptPasses.B6:List Nat:=[0,1,0,7,15,31,63,127,63,511,1023,2047,4095,8191,16383,8191,65535,131071,262143,524287,1048575,2097151,1048575,8388607,16777215,33554431,67108863,134217727,268435455,134217727,1073741823,2147483647,4294967295,8589934591]
theorem lwOptPasses.tab6:rtab .any (opsOf Try.f3 6)=lwOptPasses.T6:=by kernel_rfl
theorem lwOptPasses.bits6:waitsOk lwOptPasses.T6.2 lwOptPasses.B6=true:=by kernel_rfl
set_option maxHeartbeats 8000000 in
set_option maxRecDepth 100000 in
theorem lwOptPasses.calls (k:Nat) (bn:Option Addr) (bj:Nat) (ab:List (S30)) (a1:Int) (r:Bool) (w:World) (bG:Kd.C k30 w bn ab.length ab) (bF:ab.length≤bj) (h:lwOptPasses.f k ab a1=some r) (hr_:r=true) :
    Calls Try.prog 3 #[.agg #[.slice bn ab.length bj],.int .i64 a1] w fun e w'=>e=.returned (.bool r)∧Below w.heap.size w w':=by
 have fD:=Try.underlying24
 have fE:=Try.underlying30
 have br:=Aside0.mk bG
 have bC:=Aside0.mk bF
 clear bG bF
 have HB:=Aside0.mk (Below.refl w.heap.size w)
 have H:((lwawake.f k).bind fun bJ=>(if bJ=true then ((rgValid.f k ab).bind fun bK=>(if bK=true then (if a1 < 0 then (lwOptPasses.j0 k a1 true ab) else (lwOptPasses.j0 k a1 (decide (a1 ≥ (ab.length:Int))) ab)) else (lwOptPasses.j0 k a1 true ab))) else (some false)))=some r:=h
 clear h
 replace H:=Option.bind_eq_some_iff.mp H
 obtain ⟨bJ,cO,H⟩:=H
 try dsimp only at H
 have A3:=Aside0.mk cO
 clear cO
 by_cases c4:bJ=true
 ·subst c4
  replace H:=iP H
  have dR:=Aside0.mk H
  clear H
  go_enter Try.func3,Try.ntmps3
  go_upto_region 3 with (first | ((with_reducible refine gate_dst (N:=2) rfl ?_);(try (refine gate_guard (by rfl) ?_;dsimp only));refine box_event ?hg (N:=2) ?hd (cs:=#[.slice bn ab.length bj]) (t:=24) ?hr ?_;(case hd=>rfl);(case hg=>rfl);(case hr=>(go_simp;done));intro bD hg w6 hbox hb;have ac:=Aside0.mk hbox;have fi:=qz HB hg;have fh:=qz HB hg;replace HB:=qs HB hb;clear hb hbox hg)|((with_reducible refine gate_callee (f:=8) rfl ?_);refine goesL_ (some 6) rfl rfl Try.func8 (by kernel_rfl) rfl #[] rfl (by (try simp only [List.map_toArray,List.map_cons,List.map_nil]);(done)) ?_;(with_reducible refine (lwawake.calls k  true _ A3.out).mono ?_);rintro e w7 ⟨rfl,hb⟩;refine ⟨_,rfl,?_⟩;replace ac:=qb ac hb;replace HB:=qs HB hb;(try clear hb)))
  (try simp only [Act.put,s1,s2,s3])
  go_cut [21] (fun fJ wc=>∃ (kq:Nat) (bz:Bool),fJ=.bool bz∧Aside0 (lwOptPasses.j0 kq a1 bz ab=some r)∧Aside0 (kq≤k)∧Aside0 (wc.heap[bD]?=some (.cells #[(.slice bn ab.length bj)] 24 (0,0)))∧Aside0 (Below w.heap.size w wc))
  case first =>
   have H:=dR.out
   clear dR
   replace H:=Option.bind_eq_some_iff.mp H
   obtain ⟨bK,fg,H⟩:=H
   try dsimp only at H
   have A8:=Aside0.mk fg
   clear fg
   by_cases c9:bK=true
   ·subst c9
    replace H:=iP H
    by_cases cp:a1 < 0
    ·rw [if_pos cp] at H
     have cH:=decide_eq_true cp
     clear cp
     have H':=Aside0.mk H
     clear H
     refine qc1 ac fun cU dc=>?_
     go_wp2_with (first | ((with_reducible refine gate_callee (f:=9) rfl ?_);refine goesL_ (some 9) rfl rfl Try.func9 (by kernel_rfl) rfl #[.agg #[.slice bn ab.length bj]] rfl (by (try simp only [List.map_toArray,List.map_cons,List.map_nil]);(rfl)) ?_;(with_reducible refine (rgValid.calls k _ _ ab true _ ?az ?aA A8.out).mono ?_);(case az=>exact (Kd.C_below br.out HB.out));(case aA=>exact bC.out);rintro e gr ⟨rfl,hb⟩;refine ⟨_,rfl,?_⟩;replace ac:=qb ac hb;replace HB:=qs HB hb;(try clear hb)))
     go_meet
     case rel=>exact ⟨_,(true),rfl,H',⟨by omega⟩,ac,HB⟩
    rw [if_neg cp] at H
    have cH:=decide_eq_false cp
    clear cp
    have H':=Aside0.mk H
    clear H
    refine qc1 ac fun cV dd=>?_
    go_wp2_with (first | ((with_reducible refine gate_callee (f:=9) rfl ?_);refine goesL_ (some 9) rfl rfl Try.func9 (by kernel_rfl) rfl #[.agg #[.slice bn ab.length bj]] rfl (by (try simp only [List.map_toArray,List.map_cons,List.map_nil]);(rfl)) ?_;(with_reducible refine (rgValid.calls k _ _ ab true _ ?az ?aA A8.out).mono ?_);(case az=>exact (Kd.C_below br.out HB.out));(case aA=>exact bC.out);rintro e gs ⟨rfl,hb⟩;refine ⟨_,rfl,?_⟩;replace ac:=qb ac hb;replace HB:=qs HB hb;(try clear hb);refine qc1 ac fun cW de=>?_))
    go_meet
    case rel=>exact ⟨_,(decide (a1 ≥ (ab.length:Int))),rfl,H',⟨by omega⟩,ac,HB⟩
   replace c9:=Bool.eq_false_iff.mpr c9
   subst c9
   replace H:=iF H
   have H':=Aside0.mk H
   clear H
   refine qc1 ac fun cX df=>?_
   go_wp2_with (first | ((with_reducible refine gate_callee (f:=9) rfl ?_);refine goesL_ (some 9) rfl rfl Try.func9 (by kernel_rfl) rfl #[.agg #[.slice bn ab.length bj]] rfl (by (try simp only [List.map_toArray,List.map_cons,List.map_nil]);(rfl)) ?_;(with_reducible refine (rgValid.calls k _ _ ab false _ ?az ?aA A8.out).mono ?_);(case az=>exact (Kd.C_below br.out HB.out));(case aA=>exact bC.out);rintro e gt ⟨rfl,hb⟩;refine ⟨_,rfl,?_⟩;replace ac:=qb ac hb;replace HB:=qs HB hb;(try clear hb)))
   go_meet
   case rel=>exact ⟨_,(true),rfl,H',⟨by omega⟩,ac,HB⟩
  clear dR
  obtain ⟨kq,bz,rfl,HA,gq,ac,HB⟩:=hcut
  obtain _ | bB:=kq
  ·exact absurd HA.out (by simp [lwOptPasses.j0])
  have H:=HA.out
  clear HA
  simp only [lwOptPasses.j0] at H
  by_cases cP:bz=true
  ·subst cP
   replace H:=iP H
   obtain rfl:=Option.some.inj H
   go_wp2
   go_ret
   exact ⟨by (rfl),HB.out⟩
  replace cP:=Bool.eq_false_iff.mpr cP
  subst cP
  replace H:=iF H
  replace H:=iNd H
  obtain ⟨fk,H⟩:=H
  replace H:=iNd H
  obtain ⟨fm,H⟩:=H
  replace H:=Option.bind_eq_some_iff.mp H
  obtain ⟨⟨bL,bM,bN⟩,cq,H⟩:=H
  try dsimp only at H
  have fp:=Aside0.mk cq
  clear cq
  replace H:=Option.bind_eq_some_iff.mp H
  obtain ⟨⟨bO,bP,bQ⟩,cr,H⟩:=H
  try dsimp only at H
  have fq:=Aside0.mk cr
  clear cr
  replace H:=Option.bind_eq_some_iff.mp H
  obtain ⟨fb,ct,H⟩:=H
  try dsimp only at H
  have fr:=Aside0.mk ct
  clear ct
  by_cases cQ:fb=true
  ·subst cQ
   replace H:=iP H
   replace H:=Option.bind_eq_some_iff.mp H
   obtain ⟨⟨bR,bS,bT⟩,cu,H⟩:=H
   try dsimp only at H
   have fs:=Aside0.mk cu
   clear cu
   replace H:=Option.bind_eq_some_iff.mp H
   obtain ⟨⟨bU,bV,bW⟩,cv,H⟩:=H
   try dsimp only at H
   have ft:=Aside0.mk cv
   clear cv
   replace H:=Option.bind_eq_some_iff.mp H
   obtain ⟨fc,cw,H⟩:=H
   try dsimp only at H
   have fu:=Aside0.mk cw
   clear cw
   by_cases cR:fc=true
   ·subst cR
    replace H:=iP H
    replace H:=Option.bind_eq_some_iff.mp H
    obtain ⟨⟨bX,bY,bZ⟩,cx,H⟩:=H
    try dsimp only at H
    have fv:=Aside0.mk cx
    clear cx
    replace H:=Option.bind_eq_some_iff.mp H
    obtain ⟨⟨ca,cb,cc⟩,cy,H⟩:=H
    try dsimp only at H
    have cO:=Aside0.mk cy
    clear cy
    replace H:=Option.bind_eq_some_iff.mp H
    obtain ⟨fd,cz,H⟩:=H
    try dsimp only at H
    have fw:=Aside0.mk cz
    clear cz
    by_cases cS:fd=true
    ·subst cS
     replace H:=iP H
     replace H:=Option.bind_eq_some_iff.mp H
     obtain ⟨⟨cd,ce,cf⟩,cA,H⟩:=H
     try dsimp only at H
     have fx:=Aside0.mk cA
     clear cA
     replace H:=Option.bind_eq_some_iff.mp H
     obtain ⟨⟨cg,ch,ci⟩,cB,H⟩:=H
     try dsimp only at H
     have fy:=Aside0.mk cB
     clear cB
     replace H:=Option.bind_eq_some_iff.mp H
     obtain ⟨fe,cC,H⟩:=H
     try dsimp only at H
     have fz:=Aside0.mk cC
     clear cC
     by_cases cT:fe=true
     ·subst cT
      replace H:=iP H
      replace H:=Option.bind_eq_some_iff.mp H
      obtain ⟨⟨cj,ck,cl⟩,cD,H⟩:=H
      try dsimp only at H
      have fA:=Aside0.mk cD
      clear cD
      replace H:=Option.bind_eq_some_iff.mp H
      obtain ⟨⟨cm,cn,co⟩,cE,H⟩:=H
      try dsimp only at H
      have fB:=Aside0.mk cE
      clear cE
      replace H:=Option.bind_eq_some_iff.mp H
      obtain ⟨ff,cF,H⟩:=H
      try dsimp only at H
      have fC:=Aside0.mk cF
      clear cF
      obtain rfl:=Option.some.inj H
      refine qc1 ac fun cY dg=>?_
      have bH:0≤(a1:Int):=od
      have bI:a1 < (ab.length:Int):=od
      obtain ⟨bE,av,aw,ax,ay,aB,aC,ew,bk,bl,bm,bv,bs,bw,bt,bx,bu⟩:=at_T30 br.out a1 bH bI
      cases ew
      replace bk:=(HB.out.cell (World.block_lt_of_cell? w _ bk)).trans bk
      replace bl:=(HB.out.cell (World.block_lt_of_cell? w _ bl)).trans bl
      replace bm:=(HB.out.cell (World.block_lt_of_cell? w _ bm)).trans bm
      have aP:=Aside0.mk bs
      have aM:=Aside0.mk bv
      clear bs bv
      have aQ:=Aside0.mk bt
      have aN:=Aside0.mk bw
      clear bt bw
      have aR:=Aside0.mk bu
      have aO:=Aside0.mk bx
      clear bu bx
      replace bH:=eq_true bH
      replace bI:=eq_true bI
      try go_wp2_with (((with_reducible refine gate_dst (N:=5) rfl ?_);(try (refine gate_guard (by rfl) ?_;dsimp only));refine box_event ?hg (N:=5) ?hd (cs:=#[.slice none 0 0,.slice none 0 0,.slice none 0 0]) (t:=30) ?hr ?_;(case hd=>rfl);(case hg=>rfl);(case hr=>(go_simp;done));intro aS hg dk hbox hb;have aa:=Aside0.mk hbox;have fj:=qz HB hg;have cG:=qz HB hg;replace HB:=qs HB hb;have bf:=qn ac hg;have bA:=qN ac hg;replace ac:=qb ac hb;clear hb hbox hg;have fn:=bA.out;have fo:=bf.out;refine qc3 aa fun cZ da db dh di dj=>?_))
      have cI:Aside0 ((((dk.setCell ⟨aS,0,none⟩ (.slice av ((rdP ab a1).f0).length aw)).setCell ⟨aS,1,none⟩ (.slice ax ((rdP ab a1).f1).length ay)).setCell ⟨aS,2,none⟩ (.slice aB ((rdP ab a1).f2).length aC)).heap[bD]?=some (.cells #[.slice (some bE) ab.length bj] 24 (0,0))):=zb ac bf.out kb3
      have cJ:Aside0 ((((dk.setCell ⟨aS,0,none⟩ (.slice av ((rdP ab a1).f0).length aw)).setCell ⟨aS,1,none⟩ (.slice ax ((rdP ab a1).f1).length ay)).setCell ⟨aS,2,none⟩ (.slice aB ((rdP ab a1).f2).length aC)).heap[aS]?=some (.cells #[.slice av ((rdP ab a1).f0).length aw,.slice ax ((rdP ab a1).f1).length ay,.slice aB ((rdP ab a1).f2).length aC] 30 (0,0))):=⟨by refine blk_put (cs:=#[.slice av ((rdP ab a1).f0).length aw,.slice ax ((rdP ab a1).f1).length ay,.slice none 0 0]) ?_ 2 _ rfl;refine blk_put (cs:=#[.slice av ((rdP ab a1).f0).length aw,.slice none 0 0,.slice none 0 0]) ?_ 1 _ rfl;refine blk_put (cs:=#[.slice none 0 0,.slice none 0 0,.slice none 0 0]) ?_ 0 _ rfl;exact aa.out⟩
      have cK:Aside0 (Below w.heap.size w (((dk.setCell ⟨aS,0,none⟩ (.slice av ((rdP ab a1).f0).length aw)).setCell ⟨aS,1,none⟩ (.slice ax ((rdP ab a1).f1).length ay)).setCell ⟨aS,2,none⟩ (.slice aB ((rdP ab a1).f2).length aC))):=⟨by repeat ((with_reducible first | exact HB.out | refine b_st ?_ cG.out))⟩
      (try clear ac)
      (try clear aa)
      (try clear HB)
      generalize (((dk.setCell ⟨aS,0,none⟩ (.slice av ((rdP ab a1).f0).length aw)).setCell ⟨aS,1,none⟩ (.slice ax ((rdP ab a1).f1).length ay)).setCell ⟨aS,2,none⟩ (.slice aB ((rdP ab a1).f2).length aC))=gp at cI cJ cK ⊢
      have ac:=cI
      have aa:=cJ
      have HB:=cK
      clear cI cJ cK
      replace ac:=qr ac
      replace aa:=qr aa
      replace HB:=qd HB
      refine start_ (n:=34) (S:=fun w'=>w'.cell? ⟨aS,0,none⟩=some (.slice av ((rdP ab a1).f0).length aw)∧w'.cell? ⟨aS,1,none⟩=some (.slice ax ((rdP ab a1).f1).length ay)∧w'.cell? ⟨aS,2,none⟩=some (.slice aB ((rdP ab a1).f2).length aC)) (ds:=[]) (fl 34 0) (by kernel_rfl) rfl rfl ⟨(bk_c aa.out 0).trans rfl,(bk_c aa.out 1).trans rfl,(bk_c aa.out 2).trans rfl⟩ (fun hHeld=>?_);refine with_tabW lwOptPasses.tab6 lwOptPasses.bits6 (fun HT_ HW_=>?_)
      generalize gp.drew=gu at ac aa HB hHeld ⊢
      refine pT 34 0 27 1 ?_ HT_ HW_ (by kernel_rfl) rfl rfl (fun _ _ _ h=>h) (by rfl) ?_ hHeld ?_ ?_ ?_
      rotate_left
      rintro w' ⟨_,_,_⟩
      go_simp
      with_reducible rfl
      rotate_left
      simp only [Act.put,s1,s2,s3,i64_w,i32_w]
      rfl
      refine pT 34 2 29 5 ?_ HT_ HW_ (by kernel_rfl) rfl rfl (fun _ _ _ h=>h) (by rfl) ?_ hHeld ?_ ?_ ?_
      rotate_left
      rintro w' ⟨_,_,_⟩
      go_simp
      with_reducible rfl
      rotate_left
      simp only [Act.put,s1,s2,s3,i64_w,i32_w]
      rfl
      refine pO 34 1 7 (some 28) HT_ (by kernel_rfl) rfl rfl (by decide) (fun K hK=>?_)
      refine goes_ Try.func11 (by kernel_rfl) rfl #[.agg #[.slice av ((rdP ab a1).f0).length aw,.slice ax ((rdP ab a1).f1).length ay,.slice aB ((rdP ab a1).f2).length aC]] (by rfl) rfl rfl (by (try simp only [List.map_toArray,List.map_cons,List.map_nil]);(rfl)) ?_
      with_reducible refine (opt_Tables.calls _ _ ((rdP ab a1).f0) _ _ ((rdP ab a1).f1) _ _ ((rdP ab a1).f2) bL bM bN _ ?az ?aA ?aH ?aI ?aJ ?aK fp.out).mono ?_
      (case az=>exact (Kd.C_below aP.out HB.out))
      (case aA=>exact aM.out)
      (case aH=>exact (Kd.C_below aQ.out HB.out))
      (case aI=>exact aN.out)
      (case aJ=>exact (Kd.C_below aR.out HB.out))
      (case aK=>exact aO.out)
      rintro e gv ⟨fK,fL,fM,rfl,al,am,aF,hb⟩
      refine ⟨_,rfl,?_⟩
      have ad:=ql al HB
      have ae:=ql am HB
      have ah:=ql aF HB
      replace ac:=qb ac hb
      replace aa:=qb aa hb
      replace HB:=qs HB hb
      (try clear hb)
      (try clear al)
      (try clear am)
      (try clear aF)
      refine hK.out _ _ ⟨(bk_c aa.out 0).trans rfl,(bk_c aa.out 1).trans rfl,(bk_c aa.out 2).trans rfl⟩ (fun hHeld=>?_)
      clear hK K
      refine norm_ (a':=?_) ?_ ?_
      rotate_left
      ·show Act.put _ (some 28) _=_
       simp only [Act.put,s1,s2,s3,i64_w,i32_w]
       rfl
      refine pO 34 3 15 (some 30) HT_ (by kernel_rfl) rfl rfl (by decide) (fun K hK=>?_)
      refine goes_ Try.func12 (by kernel_rfl) rfl #[.agg #[.slice av ((rdP ab a1).f0).length aw,.slice ax ((rdP ab a1).f1).length ay,.slice aB ((rdP ab a1).f2).length aC]] (by rfl) rfl rfl (by (try simp only [List.map_toArray,List.map_cons,List.map_nil]);(rfl)) ?_
      with_reducible refine (rfTables.calls bB _ _ ((rdP ab a1).f0) _ _ ((rdP ab a1).f1) _ _ ((rdP ab a1).f2) bO bP bQ _ ?az ?aA ?aH ?aI ?aJ ?aK fq.out).mono ?_
      (case az=>exact (Kd.C_below aP.out HB.out))
      (case aA=>exact aM.out)
      (case aH=>exact (Kd.C_below aQ.out HB.out))
      (case aI=>exact aN.out)
      (case aJ=>exact (Kd.C_below aR.out HB.out))
      (case aK=>exact aO.out)
      rintro e gw ⟨fN,fO,fP,rfl,al,am,aF,hb⟩
      refine ⟨_,rfl,?_⟩
      have af:=ql (qw (qw al ad) ae) HB
      have ag:=ql (qw (qw am ad) ae) HB
      replace ad:=qt ad hb al am
      replace ae:=qt ae hb al am
      have aj:=ql (qw aF ah) HB
      replace ah:=qe ah aF hb
      replace ac:=qb ac hb
      replace aa:=qb aa hb
      replace HB:=qs HB hb
      (try clear hb)
      (try clear al)
      (try clear am)
      (try clear aF)
      obtain ⟨dl,dS,ex⟩:=Kd.R_slice ad.out
      (subst ex)
      obtain ⟨dm,dT,ey⟩:=Kd.R_slice ae.out
      (subst ey)
      obtain ⟨dn,dU,ez⟩:=Kd.R_slice ah.out
      (subst ez)
      obtain ⟨dp,dV,eA⟩:=Kd.R_slice af.out
      (subst eA)
      obtain ⟨dq,dW,eB⟩:=Kd.R_slice ag.out
      (subst eB)
      obtain ⟨dr,dX,eC⟩:=Kd.R_slice aj.out
      (subst eC)
      refine hK.out _ _ ⟨(bk_c aa.out 0).trans rfl,(bk_c aa.out 1).trans rfl,(bk_c aa.out 2).trans rfl⟩ (fun hHeld=>?_)
      clear hK K
      refine norm_ (a':=?_) ?_ ?_
      rotate_left
      ·show Act.put _ (some 30) _=_
       simp only [Act.put,s1,s2,s3,i64_w,i32_w]
       rfl
      refine pO 34 4 31 (some 31) HT_ (by kernel_rfl) rfl rfl (by decide) (fun K hK=>?_)
      refine goes_ Try.func10 (by kernel_rfl) rfl #[.agg #[.slice dl bL.length dS,.slice dm bM.length dT,.slice dn bN.length dU],.agg #[.slice dp bO.length dV,.slice dq bP.length dW,.slice dr bQ.length dX]] (by rfl) rfl rfl (by (try simp only [List.map_toArray,List.map_cons,List.map_nil]);(rfl)) ?_
      with_reducible refine (lwsame.calls bB _ _ bL _ _ bM _ _ bN _ _ bO _ _ bP _ _ bQ true _ ?az ?aA ?aH ?aI ?aJ ?aK ?bg ?bh ?bi ?bb ?bc ?bd fr.out).mono ?_
      (case az=>exact (Kd.R_reads' ad.out).2.2)
      (case aA=>exact (Kd.R_reads' ad.out).2.1)
      (case aH=>exact (Kd.R_reads' ae.out).2.2)
      (case aI=>exact (Kd.R_reads' ae.out).2.1)
      (case aJ=>exact (Kd.R_reads' ah.out).2.2)
      (case aK=>exact (Kd.R_reads' ah.out).2.1)
      (case bg=>exact (Kd.R_reads' af.out).2.2)
      (case bh=>exact (Kd.R_reads' af.out).2.1)
      (case bi=>exact (Kd.R_reads' ag.out).2.2)
      (case bb=>exact (Kd.R_reads' ag.out).2.1)
      (case bc=>exact (Kd.R_reads' aj.out).2.2)
      (case bd=>exact (Kd.R_reads' aj.out).2.1)
      rintro e gx ⟨rfl,hb⟩
      refine ⟨_,rfl,?_⟩
      replace ad:=qB ad hb
      replace ae:=qB ae hb
      replace ah:=qB ah hb
      replace af:=qB af hb
      replace ag:=qB ag hb
      replace aj:=qB aj hb
      replace ac:=qb ac hb
      replace aa:=qb aa hb
      replace HB:=qs HB hb
      (try clear hb)
      refine hK.out _ _ ⟨(bk_c aa.out 0).trans rfl,(bk_c aa.out 1).trans rfl,(bk_c aa.out 2).trans rfl⟩ (fun hHeld=>?_)
      clear hK K
      refine norm_ (a':=?_) ?_ ?_
      rotate_left
      ·show Act.put _ (some 31) _=_
       simp only [Act.put,s1,s2,s3,i64_w,i32_w]
       rfl
      refine pA 34 5 32 63 ?_ HT_ (by kernel_rfl) rfl rfl (fun _ _ _ h=>h) (by rfl) ?_ ?_ ?_ ?_
      rotate_left
      intro w'
      go_simp
      with_reducible rfl
      rotate_left
      simp only [Act.put,s1,s2,s3,i64_w,i32_w]
      rfl
      refine pT 34 6 33 127 ?_ HT_ HW_ (by kernel_rfl) rfl rfl (fun _ _ _ h=>h) (by rfl) ?_ hHeld ?_ ?_ ?_
      rotate_left
      rintro w' ⟨_,_,_⟩
      go_simp
      with_reducible rfl
      rotate_left
      simp only [Act.put,s1,s2,s3,i64_w,i32_w]
      rfl
      refine pT 34 8 35 383 ?_ HT_ HW_ (by kernel_rfl) rfl rfl (fun _ _ _ h=>h) (by rfl) ?_ hHeld ?_ ?_ ?_
      rotate_left
      rintro w' ⟨_,_,_⟩
      go_simp
      with_reducible rfl
      rotate_left
      simp only [Act.put,s1,s2,s3,i64_w,i32_w]
      rfl
      refine pO 34 7 511 (some 34) HT_ (by kernel_rfl) rfl rfl (by decide) (fun K hK=>?_)
      refine goes_ Try.func13 (by kernel_rfl) rfl #[.agg #[.slice av ((rdP ab a1).f0).length aw,.slice ax ((rdP ab a1).f1).length ay,.slice aB ((rdP ab a1).f2).length aC]] (by rfl) rfl rfl (by (try simp only [List.map_toArray,List.map_cons,List.map_nil]);(rfl)) ?_
      with_reducible refine (opt_Fuse.calls _ _ ((rdP ab a1).f0) _ _ ((rdP ab a1).f1) _ _ ((rdP ab a1).f2) bR bS bT _ ?az ?aA ?aH ?aI ?aJ ?aK fs.out).mono ?_
      (case az=>exact (Kd.C_below aP.out HB.out))
      (case aA=>exact aM.out)
      (case aH=>exact (Kd.C_below aQ.out HB.out))
      (case aI=>exact aN.out)
      (case aJ=>exact (Kd.C_below aR.out HB.out))
      (case aK=>exact aO.out)
      rintro e gy ⟨fQ,fR,fS,rfl,al,am,aF,hb⟩
      refine ⟨_,rfl,?_⟩
      have ai:=ql (qw (qw (qw (qw al ad) ae) af) ag) HB
      have ak:=ql (qw (qw (qw (qw am ad) ae) af) ag) HB
      replace ad:=qt ad hb al am
      replace ae:=qt ae hb al am
      replace af:=qt af hb al am
      replace ag:=qt ag hb al am
      have ap:=ql (qw (qw aF ah) aj) HB
      replace ah:=qe ah aF hb
      replace aj:=qe aj aF hb
      replace ac:=qb ac hb
      replace aa:=qb aa hb
      replace HB:=qs HB hb
      (try clear hb)
      (try clear al)
      (try clear am)
      (try clear aF)
      refine hK.out _ _ ⟨(bk_c aa.out 0).trans rfl,(bk_c aa.out 1).trans rfl,(bk_c aa.out 2).trans rfl⟩ (fun hHeld=>?_)
      clear hK K
      refine norm_ (a':=?_) ?_ ?_
      rotate_left
      ·show Act.put _ (some 34) _=_
       simp only [Act.put,s1,s2,s3,i64_w,i32_w]
       rfl
      refine pO 34 9 1023 (some 36) HT_ (by kernel_rfl) rfl rfl (by decide) (fun K hK=>?_)
      refine goes_ Try.func14 (by kernel_rfl) rfl #[.agg #[.slice av ((rdP ab a1).f0).length aw,.slice ax ((rdP ab a1).f1).length ay,.slice aB ((rdP ab a1).f2).length aC]] (by rfl) rfl rfl (by (try simp only [List.map_toArray,List.map_cons,List.map_nil]);(rfl)) ?_
      with_reducible refine (rfFuse.calls bB _ _ ((rdP ab a1).f0) _ _ ((rdP ab a1).f1) _ _ ((rdP ab a1).f2) bU bV bW _ ?az ?aA ?aH ?aI ?aJ ?aK ft.out).mono ?_
      (case az=>exact (Kd.C_below aP.out HB.out))
      (case aA=>exact aM.out)
      (case aH=>exact (Kd.C_below aQ.out HB.out))
      (case aI=>exact aN.out)
      (case aJ=>exact (Kd.C_below aR.out HB.out))
      (case aK=>exact aO.out)
      rintro e gz ⟨fT,fU,fV,rfl,al,am,aF,hb⟩
      refine ⟨_,rfl,?_⟩
      have an:=ql (qw (qw (qw (qw (qw (qw al ad) ae) af) ag) ai) ak) HB
      have ao:=ql (qw (qw (qw (qw (qw (qw am ad) ae) af) ag) ai) ak) HB
      replace ad:=qt ad hb al am
      replace ae:=qt ae hb al am
      replace af:=qt af hb al am
      replace ag:=qt ag hb al am
      replace ai:=qt ai hb al am
      replace ak:=qt ak hb al am
      have aq:=ql (qw (qw (qw aF ah) aj) ap) HB
      replace ah:=qe ah aF hb
      replace aj:=qe aj aF hb
      replace ap:=qe ap aF hb
      replace ac:=qb ac hb
      replace aa:=qb aa hb
      replace HB:=qs HB hb
      (try clear hb)
      (try clear al)
      (try clear am)
      (try clear aF)
      obtain ⟨dt,dY,eD⟩:=Kd.R_slice ai.out
      (subst eD)
      obtain ⟨du,dZ,eE⟩:=Kd.R_slice ak.out
      (subst eE)
      obtain ⟨dv,ea,eF⟩:=Kd.R_slice ap.out
      (subst eF)
      obtain ⟨dw,eb,eG⟩:=Kd.R_slice an.out
      (subst eG)
      obtain ⟨dx,ec,eH⟩:=Kd.R_slice ao.out
      (subst eH)
      obtain ⟨dy,ed,eI⟩:=Kd.R_slice aq.out
      (subst eI)
      refine hK.out _ _ ⟨(bk_c aa.out 0).trans rfl,(bk_c aa.out 1).trans rfl,(bk_c aa.out 2).trans rfl⟩ (fun hHeld=>?_)
      clear hK K
      refine norm_ (a':=?_) ?_ ?_
      rotate_left
      ·show Act.put _ (some 36) _=_
       simp only [Act.put,s1,s2,s3,i64_w,i32_w]
       rfl
      refine pO 34 10 2047 (some 37) HT_ (by kernel_rfl) rfl rfl (by decide) (fun K hK=>?_)
      refine goes_ Try.func10 (by kernel_rfl) rfl #[.agg #[.slice dt bR.length dY,.slice du bS.length dZ,.slice dv bT.length ea],.agg #[.slice dw bU.length eb,.slice dx bV.length ec,.slice dy bW.length ed]] (by rfl) rfl rfl (by (try simp only [List.map_toArray,List.map_cons,List.map_nil]);(rfl)) ?_
      with_reducible refine (lwsame.calls bB _ _ bR _ _ bS _ _ bT _ _ bU _ _ bV _ _ bW true _ ?az ?aA ?aH ?aI ?aJ ?aK ?bg ?bh ?bi ?bb ?bc ?bd fu.out).mono ?_
      (case az=>exact (Kd.R_reads' ai.out).2.2)
      (case aA=>exact (Kd.R_reads' ai.out).2.1)
      (case aH=>exact (Kd.R_reads' ak.out).2.2)
      (case aI=>exact (Kd.R_reads' ak.out).2.1)
      (case aJ=>exact (Kd.R_reads' ap.out).2.2)
      (case aK=>exact (Kd.R_reads' ap.out).2.1)
      (case bg=>exact (Kd.R_reads' an.out).2.2)
      (case bh=>exact (Kd.R_reads' an.out).2.1)
      (case bi=>exact (Kd.R_reads' ao.out).2.2)
      (case bb=>exact (Kd.R_reads' ao.out).2.1)
      (case bc=>exact (Kd.R_reads' aq.out).2.2)
      (case bd=>exact (Kd.R_reads' aq.out).2.1)
      rintro e gA ⟨rfl,hb⟩
      refine ⟨_,rfl,?_⟩
      replace ad:=qB ad hb
      replace ae:=qB ae hb
      replace ah:=qB ah hb
      replace af:=qB af hb
      replace ag:=qB ag hb
      replace aj:=qB aj hb
      replace ai:=qB ai hb
      replace ak:=qB ak hb
      replace ap:=qB ap hb
      replace an:=qB an hb
      replace ao:=qB ao hb
      replace aq:=qB aq hb
      replace ac:=qb ac hb
      replace aa:=qb aa hb
      replace HB:=qs HB hb
      (try clear hb)
      refine hK.out _ _ ⟨(bk_c aa.out 0).trans rfl,(bk_c aa.out 1).trans rfl,(bk_c aa.out 2).trans rfl⟩ (fun hHeld=>?_)
      clear hK K
      refine norm_ (a':=?_) ?_ ?_
      rotate_left
      ·show Act.put _ (some 37) _=_
       simp only [Act.put,s1,s2,s3,i64_w,i32_w]
       rfl
      refine pA 34 11 38 4095 ?_ HT_ (by kernel_rfl) rfl rfl (fun _ _ _ h=>h) (by rfl) ?_ ?_ ?_ ?_
      rotate_left
      intro w'
      go_simp
      with_reducible rfl
      rotate_left
      simp only [Act.put,s1,s2,s3,i64_w,i32_w]
      rfl
      refine pA 34 12 39 8191 ?_ HT_ (by kernel_rfl) rfl rfl (fun _ _ _ h=>h) (by rfl) ?_ ?_ ?_ ?_
      rotate_left
      intro w'
      go_simp
      with_reducible rfl
      rotate_left
      simp only [Act.put,s1,s2,s3,i64_w,i32_w]
      rfl
      refine pT 34 13 40 16383 ?_ HT_ HW_ (by kernel_rfl) rfl rfl (fun _ _ _ h=>h) (by rfl) ?_ hHeld ?_ ?_ ?_
      rotate_left
      rintro w' ⟨_,_,_⟩
      go_simp
      with_reducible rfl
      rotate_left
      simp only [Act.put,s1,s2,s3,i64_w,i32_w]
      rfl
      refine pT 34 15 42 49151 ?_ HT_ HW_ (by kernel_rfl) rfl rfl (fun _ _ _ h=>h) (by rfl) ?_ hHeld ?_ ?_ ?_
      rotate_left
      rintro w' ⟨_,_,_⟩
      go_simp
      with_reducible rfl
      rotate_left
      simp only [Act.put,s1,s2,s3,i64_w,i32_w]
      rfl
      refine pO 34 14 65535 (some 41) HT_ (by kernel_rfl) rfl rfl (by decide) (fun K hK=>?_)
      refine goes_ Try.func15 (by kernel_rfl) rfl #[.agg #[.slice av ((rdP ab a1).f0).length aw,.slice ax ((rdP ab a1).f1).length ay,.slice aB ((rdP ab a1).f2).length aC]] (by rfl) rfl rfl (by (try simp only [List.map_toArray,List.map_cons,List.map_nil]);(rfl)) ?_
      with_reducible refine (opt_Thread.calls _ _ ((rdP ab a1).f0) _ _ ((rdP ab a1).f1) _ _ ((rdP ab a1).f2) bX bY bZ _ ?az ?aA ?aH ?aI ?aJ ?aK fv.out).mono ?_
      (case az=>exact (Kd.C_below aP.out HB.out))
      (case aA=>exact aM.out)
      (case aH=>exact (Kd.C_below aQ.out HB.out))
      (case aI=>exact aN.out)
      (case aJ=>exact (Kd.C_below aR.out HB.out))
      (case aK=>exact aO.out)
      rintro e gB ⟨fW,fX,fY,rfl,al,am,aF,hb⟩
      refine ⟨_,rfl,?_⟩
      have ar:=ql (qw (qw (qw (qw (qw (qw (qw (qw al ad) ae) af) ag) ai) ak) an) ao) HB
      have au:=ql (qw (qw (qw (qw (qw (qw (qw (qw am ad) ae) af) ag) ai) ak) an) ao) HB
      replace ad:=qt ad hb al am
      replace ae:=qt ae hb al am
      replace af:=qt af hb al am
      replace ag:=qt ag hb al am
      replace ai:=qt ai hb al am
      replace ak:=qt ak hb al am
      replace an:=qt an hb al am
      replace ao:=qt ao hb al am
      have aG:=ql (qw (qw (qw (qw aF ah) aj) ap) aq) HB
      replace ah:=qe ah aF hb
      replace aj:=qe aj aF hb
      replace ap:=qe ap aF hb
      replace aq:=qe aq aF hb
      replace ac:=qb ac hb
      replace aa:=qb aa hb
      replace HB:=qs HB hb
      (try clear hb)
      (try clear al)
      (try clear am)
      (try clear aF)
      refine hK.out _ _ ⟨(bk_c aa.out 0).trans rfl,(bk_c aa.out 1).trans rfl,(bk_c aa.out 2).trans rfl⟩ (fun hHeld=>?_)
      clear hK K
      refine norm_ (a':=?_) ?_ ?_
      rotate_left
      ·show Act.put _ (some 41) _=_
       simp only [Act.put,s1,s2,s3,i64_w,i32_w]
       rfl
      refine pO 34 16 131071 (some 43) HT_ (by kernel_rfl) rfl rfl (by decide) (fun K hK=>?_)
      refine goes_ Try.func16 (by kernel_rfl) rfl #[.agg #[.slice av ((rdP ab a1).f0).length aw,.slice ax ((rdP ab a1).f1).length ay,.slice aB ((rdP ab a1).f2).length aC]] (by rfl) rfl rfl (by (try simp only [List.map_toArray,List.map_cons,List.map_nil]);(rfl)) ?_
      with_reducible refine (rfThread.calls bB _ _ ((rdP ab a1).f0) _ _ ((rdP ab a1).f1) _ _ ((rdP ab a1).f2) ca cb cc _ ?az ?aA ?aH ?aI ?aJ ?aK cO.out).mono ?_
      (case az=>exact (Kd.C_below aP.out HB.out))
      (case aA=>exact aM.out)
      (case aH=>exact (Kd.C_below aQ.out HB.out))
      (case aI=>exact aN.out)
      (case aJ=>exact (Kd.C_below aR.out HB.out))
      (case aK=>exact aO.out)
      rintro e gC ⟨fZ,ga,gb,rfl,al,am,aF,hb⟩
      refine ⟨_,rfl,?_⟩
      have aD:=ql (qw (qw (qw (qw (qw (qw (qw (qw (qw (qw al ad) ae) af) ag) ai) ak) an) ao) ar) au) HB
      have aE:=ql (qw (qw (qw (qw (qw (qw (qw (qw (qw (qw am ad) ae) af) ag) ai) ak) an) ao) ar) au) HB
      replace ad:=qt ad hb al am
      replace ae:=qt ae hb al am
      replace af:=qt af hb al am
      replace ag:=qt ag hb al am
      replace ai:=qt ai hb al am
      replace ak:=qt ak hb al am
      replace an:=qt an hb al am
      replace ao:=qt ao hb al am
      replace ar:=qt ar hb al am
      replace au:=qt au hb al am
      have aL:=ql (qw (qw (qw (qw (qw aF ah) aj) ap) aq) aG) HB
      replace ah:=qe ah aF hb
      replace aj:=qe aj aF hb
      replace ap:=qe ap aF hb
      replace aq:=qe aq aF hb
      replace aG:=qe aG aF hb
      replace ac:=qb ac hb
      replace aa:=qb aa hb
      replace HB:=qs HB hb
      (try clear hb)
      (try clear al)
      (try clear am)
      (try clear aF)
      obtain ⟨dz,ee,eJ⟩:=Kd.R_slice ar.out
      (subst eJ)
      obtain ⟨dA,ef,eK⟩:=Kd.R_slice au.out
      (subst eK)
      obtain ⟨dB,eg,eL⟩:=Kd.R_slice aG.out
      (subst eL)
      obtain ⟨dC,eh,eM⟩:=Kd.R_slice aD.out
      (subst eM)
      obtain ⟨dD,ei,eN⟩:=Kd.R_slice aE.out
      (subst eN)
      obtain ⟨dE,ej,eO⟩:=Kd.R_slice aL.out
      (subst eO)
      refine hK.out _ _ ⟨(bk_c aa.out 0).trans rfl,(bk_c aa.out 1).trans rfl,(bk_c aa.out 2).trans rfl⟩ (fun hHeld=>?_)
      clear hK K
      refine norm_ (a':=?_) ?_ ?_
      rotate_left
      ·show Act.put _ (some 43) _=_
       simp only [Act.put,s1,s2,s3,i64_w,i32_w]
       rfl
      refine pO 34 17 262143 (some 44) HT_ (by kernel_rfl) rfl rfl (by decide) (fun K hK=>?_)
      refine goes_ Try.func10 (by kernel_rfl) rfl #[.agg #[.slice dz bX.length ee,.slice dA bY.length ef,.slice dB bZ.length eg],.agg #[.slice dC ca.length eh,.slice dD cb.length ei,.slice dE cc.length ej]] (by rfl) rfl rfl (by (try simp only [List.map_toArray,List.map_cons,List.map_nil]);(rfl)) ?_
      with_reducible refine (lwsame.calls bB _ _ bX _ _ bY _ _ bZ _ _ ca _ _ cb _ _ cc true _ ?az ?aA ?aH ?aI ?aJ ?aK ?bg ?bh ?bi ?bb ?bc ?bd fw.out).mono ?_
      (case az=>exact (Kd.R_reads' ar.out).2.2)
      (case aA=>exact (Kd.R_reads' ar.out).2.1)
      (case aH=>exact (Kd.R_reads' au.out).2.2)
      (case aI=>exact (Kd.R_reads' au.out).2.1)
      (case aJ=>exact (Kd.R_reads' aG.out).2.2)
      (case aK=>exact (Kd.R_reads' aG.out).2.1)
      (case bg=>exact (Kd.R_reads' aD.out).2.2)
      (case bh=>exact (Kd.R_reads' aD.out).2.1)
      (case bi=>exact (Kd.R_reads' aE.out).2.2)
      (case bb=>exact (Kd.R_reads' aE.out).2.1)
      (case bc=>exact (Kd.R_reads' aL.out).2.2)
      (case bd=>exact (Kd.R_reads' aL.out).2.1)
      rintro e gD ⟨rfl,hb⟩
      refine ⟨_,rfl,?_⟩
      replace ad:=qB ad hb
      replace ae:=qB ae hb
      replace ah:=qB ah hb
      replace af:=qB af hb
      replace ag:=qB ag hb
      replace aj:=qB aj hb
      replace ai:=qB ai hb
      replace ak:=qB ak hb
      replace ap:=qB ap hb
      replace an:=qB an hb
      replace ao:=qB ao hb
      replace aq:=qB aq hb
      replace ar:=qB ar hb
      replace au:=qB au hb
      replace aG:=qB aG hb
      replace aD:=qB aD hb
      replace aE:=qB aE hb
      replace aL:=qB aL hb
      replace ac:=qb ac hb
      replace aa:=qb aa hb
      replace HB:=qs HB hb
      (try clear hb)
      refine hK.out _ _ ⟨(bk_c aa.out 0).trans rfl,(bk_c aa.out 1).trans rfl,(bk_c aa.out 2).trans rfl⟩ (fun hHeld=>?_)
      clear hK K
      refine norm_ (a':=?_) ?_ ?_
      rotate_left
      ·show Act.put _ (some 44) _=_
       simp only [Act.put,s1,s2,s3,i64_w,i32_w]
       rfl
      refine pA 34 18 45 524287 ?_ HT_ (by kernel_rfl) rfl rfl (fun _ _ _ h=>h) (by rfl) ?_ ?_ ?_ ?_
      rotate_left
      intro w'
      go_simp
      with_reducible rfl
      rotate_left
      simp only [Act.put,s1,s2,s3,i64_w,i32_w]
      rfl
      refine pA 34 19 46 1048575 ?_ HT_ (by kernel_rfl) rfl rfl (fun _ _ _ h=>h) (by rfl) ?_ ?_ ?_ ?_
      rotate_left
      intro w'
      go_simp
      with_reducible rfl
      rotate_left
      simp only [Act.put,s1,s2,s3,i64_w,i32_w]
      rfl
      refine pT 34 20 47 2097151 ?_ HT_ HW_ (by kernel_rfl) rfl rfl (fun _ _ _ h=>h) (by rfl) ?_ hHeld ?_ ?_ ?_
      rotate_left
      rintro w' ⟨_,_,_⟩
      go_simp
      with_reducible rfl
      rotate_left
      simp only [Act.put,s1,s2,s3,i64_w,i32_w]
      rfl
      refine pT 34 22 49 6291455 ?_ HT_ HW_ (by kernel_rfl) rfl rfl (fun _ _ _ h=>h) (by rfl) ?_ hHeld ?_ ?_ ?_
      rotate_left
      rintro w' ⟨_,_,_⟩
      go_simp
      with_reducible rfl
      rotate_left
      simp only [Act.put,s1,s2,s3,i64_w,i32_w]
      rfl
      refine pO 34 21 8388607 (some 48) HT_ (by kernel_rfl) rfl rfl (by decide) (fun K hK=>?_)
      refine goes_ Try.func17 (by kernel_rfl) rfl #[.agg #[.slice av ((rdP ab a1).f0).length aw,.slice ax ((rdP ab a1).f1).length ay,.slice aB ((rdP ab a1).f2).length aC]] (by rfl) rfl rfl (by (try simp only [List.map_toArray,List.map_cons,List.map_nil]);(rfl)) ?_
      with_reducible refine (opt_Trim.calls bB _ _ ((rdP ab a1).f0) _ _ ((rdP ab a1).f1) _ _ ((rdP ab a1).f2) cd ce cf _ ?az ?aA ?aH ?aI ?aJ ?aK fx.out).mono ?_
      (case az=>exact (Kd.C_below aP.out HB.out))
      (case aA=>exact aM.out)
      (case aH=>exact (Kd.C_below aQ.out HB.out))
      (case aI=>exact aN.out)
      (case aJ=>exact (Kd.C_below aR.out HB.out))
      (case aK=>exact aO.out)
      rintro e gE ⟨gc,gd,ge,rfl,al,am,aF,hb⟩
      refine ⟨_,rfl,?_⟩
      have aT:=ql (qw (qw (qw (qw (qw (qw (qw (qw (qw (qw (qw (qw al ad) ae) af) ag) ai) ak) an) ao) ar) au) aD) aE) HB
      have aU:=ql (qw (qw (qw (qw (qw (qw (qw (qw (qw (qw (qw (qw am ad) ae) af) ag) ai) ak) an) ao) ar) au) aD) aE) HB
      replace ad:=qt ad hb al am
      replace ae:=qt ae hb al am
      replace af:=qt af hb al am
      replace ag:=qt ag hb al am
      replace ai:=qt ai hb al am
      replace ak:=qt ak hb al am
      replace an:=qt an hb al am
      replace ao:=qt ao hb al am
      replace ar:=qt ar hb al am
      replace au:=qt au hb al am
      replace aD:=qt aD hb al am
      replace aE:=qt aE hb al am
      have aV:=ql (qw (qw (qw (qw (qw (qw aF ah) aj) ap) aq) aG) aL) HB
      replace ah:=qe ah aF hb
      replace aj:=qe aj aF hb
      replace ap:=qe ap aF hb
      replace aq:=qe aq aF hb
      replace aG:=qe aG aF hb
      replace aL:=qe aL aF hb
      replace ac:=qb ac hb
      replace aa:=qb aa hb
      replace HB:=qs HB hb
      (try clear hb)
      (try clear al)
      (try clear am)
      (try clear aF)
      refine hK.out _ _ ⟨(bk_c aa.out 0).trans rfl,(bk_c aa.out 1).trans rfl,(bk_c aa.out 2).trans rfl⟩ (fun hHeld=>?_)
      clear hK K
      refine norm_ (a':=?_) ?_ ?_
      rotate_left
      ·show Act.put _ (some 48) _=_
       simp only [Act.put,s1,s2,s3,i64_w,i32_w]
       rfl
      refine pO 34 23 16777215 (some 50) HT_ (by kernel_rfl) rfl rfl (by decide) (fun K hK=>?_)
      refine goes_ Try.func18 (by kernel_rfl) rfl #[.agg #[.slice av ((rdP ab a1).f0).length aw,.slice ax ((rdP ab a1).f1).length ay,.slice aB ((rdP ab a1).f2).length aC]] (by rfl) rfl rfl (by (try simp only [List.map_toArray,List.map_cons,List.map_nil]);(rfl)) ?_
      with_reducible refine (rfTrim.calls bB _ _ ((rdP ab a1).f0) _ _ ((rdP ab a1).f1) _ _ ((rdP ab a1).f2) cg ch ci _ ?az ?aA ?aH ?aI ?aJ ?aK fy.out).mono ?_
      (case az=>exact (Kd.C_below aP.out HB.out))
      (case aA=>exact aM.out)
      (case aH=>exact (Kd.C_below aQ.out HB.out))
      (case aI=>exact aN.out)
      (case aJ=>exact (Kd.C_below aR.out HB.out))
      (case aK=>exact aO.out)
      rintro e gF ⟨gf,gg,gh,rfl,al,am,aF,hb⟩
      refine ⟨_,rfl,?_⟩
      have aW:=ql (qw (qw (qw (qw (qw (qw (qw (qw (qw (qw (qw (qw (qw (qw al ad) ae) af) ag) ai) ak) an) ao) ar) au) aD) aE) aT) aU) HB
      have aX:=ql (qw (qw (qw (qw (qw (qw (qw (qw (qw (qw (qw (qw (qw (qw am ad) ae) af) ag) ai) ak) an) ao) ar) au) aD) aE) aT) aU) HB
      replace ad:=qt ad hb al am
      replace ae:=qt ae hb al am
      replace af:=qt af hb al am
      replace ag:=qt ag hb al am
      replace ai:=qt ai hb al am
      replace ak:=qt ak hb al am
      replace an:=qt an hb al am
      replace ao:=qt ao hb al am
      replace ar:=qt ar hb al am
      replace au:=qt au hb al am
      replace aD:=qt aD hb al am
      replace aE:=qt aE hb al am
      replace aT:=qt aT hb al am
      replace aU:=qt aU hb al am
      have aY:=ql (qw (qw (qw (qw (qw (qw (qw aF ah) aj) ap) aq) aG) aL) aV) HB
      replace ah:=qe ah aF hb
      replace aj:=qe aj aF hb
      replace ap:=qe ap aF hb
      replace aq:=qe aq aF hb
      replace aG:=qe aG aF hb
      replace aL:=qe aL aF hb
      replace aV:=qe aV aF hb
      replace ac:=qb ac hb
      replace aa:=qb aa hb
      replace HB:=qs HB hb
      (try clear hb)
      (try clear al)
      (try clear am)
      (try clear aF)
      obtain ⟨dF,ek,eP⟩:=Kd.R_slice aT.out
      (subst eP)
      obtain ⟨dG,el,eQ⟩:=Kd.R_slice aU.out
      (subst eQ)
      obtain ⟨dH,em,eR⟩:=Kd.R_slice aV.out
      (subst eR)
      obtain ⟨dI,en,eS⟩:=Kd.R_slice aW.out
      (subst eS)
      obtain ⟨dJ,eo,eT⟩:=Kd.R_slice aX.out
      (subst eT)
      obtain ⟨dK,ep,eU⟩:=Kd.R_slice aY.out
      (subst eU)
      refine hK.out _ _ ⟨(bk_c aa.out 0).trans rfl,(bk_c aa.out 1).trans rfl,(bk_c aa.out 2).trans rfl⟩ (fun hHeld=>?_)
      clear hK K
      refine norm_ (a':=?_) ?_ ?_
      rotate_left
      ·show Act.put _ (some 50) _=_
       simp only [Act.put,s1,s2,s3,i64_w,i32_w]
       rfl
      refine pO 34 24 33554431 (some 51) HT_ (by kernel_rfl) rfl rfl (by decide) (fun K hK=>?_)
      refine goes_ Try.func10 (by kernel_rfl) rfl #[.agg #[.slice dF cd.length ek,.slice dG ce.length el,.slice dH cf.length em],.agg #[.slice dI cg.length en,.slice dJ ch.length eo,.slice dK ci.length ep]] (by rfl) rfl rfl (by (try simp only [List.map_toArray,List.map_cons,List.map_nil]);(rfl)) ?_
      with_reducible refine (lwsame.calls bB _ _ cd _ _ ce _ _ cf _ _ cg _ _ ch _ _ ci true _ ?az ?aA ?aH ?aI ?aJ ?aK ?bg ?bh ?bi ?bb ?bc ?bd fz.out).mono ?_
      (case az=>exact (Kd.R_reads' aT.out).2.2)
      (case aA=>exact (Kd.R_reads' aT.out).2.1)
      (case aH=>exact (Kd.R_reads' aU.out).2.2)
      (case aI=>exact (Kd.R_reads' aU.out).2.1)
      (case aJ=>exact (Kd.R_reads' aV.out).2.2)
      (case aK=>exact (Kd.R_reads' aV.out).2.1)
      (case bg=>exact (Kd.R_reads' aW.out).2.2)
      (case bh=>exact (Kd.R_reads' aW.out).2.1)
      (case bi=>exact (Kd.R_reads' aX.out).2.2)
      (case bb=>exact (Kd.R_reads' aX.out).2.1)
      (case bc=>exact (Kd.R_reads' aY.out).2.2)
      (case bd=>exact (Kd.R_reads' aY.out).2.1)
      rintro e gG ⟨rfl,hb⟩
      refine ⟨_,rfl,?_⟩
      replace ad:=qB ad hb
      replace ae:=qB ae hb
      replace ah:=qB ah hb
      replace af:=qB af hb
      replace ag:=qB ag hb
      replace aj:=qB aj hb
      replace ai:=qB ai hb
      replace ak:=qB ak hb
      replace ap:=qB ap hb
      replace an:=qB an hb
      replace ao:=qB ao hb
      replace aq:=qB aq hb
      replace ar:=qB ar hb
      replace au:=qB au hb
      replace aG:=qB aG hb
      replace aD:=qB aD hb
      replace aE:=qB aE hb
      replace aL:=qB aL hb
      replace aT:=qB aT hb
      replace aU:=qB aU hb
      replace aV:=qB aV hb
      replace aW:=qB aW hb
      replace aX:=qB aX hb
      replace aY:=qB aY hb
      replace ac:=qb ac hb
      replace aa:=qb aa hb
      replace HB:=qs HB hb
      (try clear hb)
      refine hK.out _ _ ⟨(bk_c aa.out 0).trans rfl,(bk_c aa.out 1).trans rfl,(bk_c aa.out 2).trans rfl⟩ (fun hHeld=>?_)
      clear hK K
      refine norm_ (a':=?_) ?_ ?_
      rotate_left
      ·show Act.put _ (some 51) _=_
       simp only [Act.put,s1,s2,s3,i64_w,i32_w]
       rfl
      refine pA 34 25 52 67108863 ?_ HT_ (by kernel_rfl) rfl rfl (fun _ _ _ h=>h) (by rfl) ?_ ?_ ?_ ?_
      rotate_left
      intro w'
      go_simp
      with_reducible rfl
      rotate_left
      simp only [Act.put,s1,s2,s3,i64_w,i32_w]
      rfl
      refine pA 34 26 53 134217727 ?_ HT_ (by kernel_rfl) rfl rfl (fun _ _ _ h=>h) (by rfl) ?_ ?_ ?_ ?_
      rotate_left
      intro w'
      go_simp
      with_reducible rfl
      rotate_left
      simp only [Act.put,s1,s2,s3,i64_w,i32_w]
      rfl
      refine pT 34 27 54 268435455 ?_ HT_ HW_ (by kernel_rfl) rfl rfl (fun _ _ _ h=>h) (by rfl) ?_ hHeld ?_ ?_ ?_
      rotate_left
      rintro w' ⟨_,_,_⟩
      go_simp
      with_reducible rfl
      rotate_left
      simp only [Act.put,s1,s2,s3,i64_w,i32_w]
      rfl
      refine pT 34 29 56 805306367 ?_ HT_ HW_ (by kernel_rfl) rfl rfl (fun _ _ _ h=>h) (by rfl) ?_ hHeld ?_ ?_ ?_
      rotate_left
      rintro w' ⟨_,_,_⟩
      go_simp
      with_reducible rfl
      rotate_left
      simp only [Act.put,s1,s2,s3,i64_w,i32_w]
      rfl
      refine pO 34 28 1073741823 (some 55) HT_ (by kernel_rfl) rfl rfl (by decide) (fun K hK=>?_)
      refine goes_ Try.func19 (by kernel_rfl) rfl #[.agg #[.slice av ((rdP ab a1).f0).length aw,.slice ax ((rdP ab a1).f1).length ay,.slice aB ((rdP ab a1).f2).length aC]] (by rfl) rfl rfl (by (try simp only [List.map_toArray,List.map_cons,List.map_nil]);(rfl)) ?_
      with_reducible refine (opt_Block.calls bB _ _ ((rdP ab a1).f0) _ _ ((rdP ab a1).f1) _ _ ((rdP ab a1).f2) cj ck cl _ ?az ?aA ?aH ?aI ?aJ ?aK fA.out).mono ?_
      (case az=>exact (Kd.C_below aP.out HB.out))
      (case aA=>exact aM.out)
      (case aH=>exact (Kd.C_below aQ.out HB.out))
      (case aI=>exact aN.out)
      (case aJ=>exact (Kd.C_below aR.out HB.out))
      (case aK=>exact aO.out)
      rintro e gH ⟨gi,gj,gk,rfl,al,am,aF,hb⟩
      refine ⟨_,rfl,?_⟩
      have aZ:=ql (qw (qw (qw (qw (qw (qw (qw (qw (qw (qw (qw (qw (qw (qw (qw (qw al ad) ae) af) ag) ai) ak) an) ao) ar) au) aD) aE) aT) aU) aW) aX) HB
      have ba:=ql (qw (qw (qw (qw (qw (qw (qw (qw (qw (qw (qw (qw (qw (qw (qw (qw am ad) ae) af) ag) ai) ak) an) ao) ar) au) aD) aE) aT) aU) aW) aX) HB
      replace ad:=qt ad hb al am
      replace ae:=qt ae hb al am
      replace af:=qt af hb al am
      replace ag:=qt ag hb al am
      replace ai:=qt ai hb al am
      replace ak:=qt ak hb al am
      replace an:=qt an hb al am
      replace ao:=qt ao hb al am
      replace ar:=qt ar hb al am
      replace au:=qt au hb al am
      replace aD:=qt aD hb al am
      replace aE:=qt aE hb al am
      replace aT:=qt aT hb al am
      replace aU:=qt aU hb al am
      replace aW:=qt aW hb al am
      replace aX:=qt aX hb al am
      have be:=ql (qw (qw (qw (qw (qw (qw (qw (qw aF ah) aj) ap) aq) aG) aL) aV) aY) HB
      replace ah:=qe ah aF hb
      replace aj:=qe aj aF hb
      replace ap:=qe ap aF hb
      replace aq:=qe aq aF hb
      replace aG:=qe aG aF hb
      replace aL:=qe aL aF hb
      replace aV:=qe aV aF hb
      replace aY:=qe aY aF hb
      replace ac:=qb ac hb
      replace aa:=qb aa hb
      replace HB:=qs HB hb
      (try clear hb)
      (try clear al)
      (try clear am)
      (try clear aF)
      refine hK.out _ _ ⟨(bk_c aa.out 0).trans rfl,(bk_c aa.out 1).trans rfl,(bk_c aa.out 2).trans rfl⟩ (fun hHeld=>?_)
      clear hK K
      refine norm_ (a':=?_) ?_ ?_
      rotate_left
      ·show Act.put _ (some 55) _=_
       simp only [Act.put,s1,s2,s3,i64_w,i32_w]
       rfl
      refine pO 34 30 2147483647 (some 57) HT_ (by kernel_rfl) rfl rfl (by decide) (fun K hK=>?_)
      refine goes_ Try.func20 (by kernel_rfl) rfl #[.agg #[.slice av ((rdP ab a1).f0).length aw,.slice ax ((rdP ab a1).f1).length ay,.slice aB ((rdP ab a1).f2).length aC]] (by rfl) rfl rfl (by (try simp only [List.map_toArray,List.map_cons,List.map_nil]);(rfl)) ?_
      with_reducible refine (rfBlock.calls bB _ _ ((rdP ab a1).f0) _ _ ((rdP ab a1).f1) _ _ ((rdP ab a1).f2) cm cn co _ ?az ?aA ?aH ?aI ?aJ ?aK fB.out).mono ?_
      (case az=>exact (Kd.C_below aP.out HB.out))
      (case aA=>exact aM.out)
      (case aH=>exact (Kd.C_below aQ.out HB.out))
      (case aI=>exact aN.out)
      (case aJ=>exact (Kd.C_below aR.out HB.out))
      (case aK=>exact aO.out)
      rintro e gI ⟨gl,gm,gn,rfl,al,am,aF,hb⟩
      refine ⟨_,rfl,?_⟩
      have bo:=ql (qw (qw (qw (qw (qw (qw (qw (qw (qw (qw (qw (qw (qw (qw (qw (qw (qw (qw al ad) ae) af) ag) ai) ak) an) ao) ar) au) aD) aE) aT) aU) aW) aX) aZ) ba) HB
      have bp:=ql (qw (qw (qw (qw (qw (qw (qw (qw (qw (qw (qw (qw (qw (qw (qw (qw (qw (qw am ad) ae) af) ag) ai) ak) an) ao) ar) au) aD) aE) aT) aU) aW) aX) aZ) ba) HB
      replace ad:=qt ad hb al am
      replace ae:=qt ae hb al am
      replace af:=qt af hb al am
      replace ag:=qt ag hb al am
      replace ai:=qt ai hb al am
      replace aZ:=qt aZ hb al am
      replace ba:=qt ba hb al am
      have bq:=ql (qw (qw (qw (qw (qw (qw (qw (qw (qw aF ah) aj) ap) aq) aG) aL) aV) aY) be) HB
      replace ah:=qe ah aF hb
      replace aj:=qe aj aF hb
      replace be:=qe be aF hb
      replace ac:=qb ac hb
      replace aa:=qb aa hb
      replace HB:=qs HB hb
      clear ak ap an ao aq ar au aG aD aE aL aT aU aV aW aX aY
      (try clear hb)
      (try clear al)
      (try clear am)
      (try clear aF)
      obtain ⟨dL,eq,eV⟩:=Kd.R_slice aZ.out
      (subst eV)
      obtain ⟨dM,er,eW⟩:=Kd.R_slice ba.out
      (subst eW)
      obtain ⟨dN,es,eX⟩:=Kd.R_slice be.out
      (subst eX)
      obtain ⟨dO,et,eY⟩:=Kd.R_slice bo.out
      (subst eY)
      obtain ⟨dP,eu,eZ⟩:=Kd.R_slice bp.out
      (subst eZ)
      obtain ⟨dQ,ev,fa⟩:=Kd.R_slice bq.out
      (subst fa)
      refine hK.out _ _ ⟨(bk_c aa.out 0).trans rfl,(bk_c aa.out 1).trans rfl,(bk_c aa.out 2).trans rfl⟩ (fun hHeld=>?_)
      clear hK K
      refine norm_ (a':=?_) ?_ ?_
      rotate_left
      ·show Act.put _ (some 57) _=_
       simp only [Act.put,s1,s2,s3,i64_w,i32_w]
       rfl
      refine pO 34 31 4294967295 (some 58) HT_ (by kernel_rfl) rfl rfl (by decide) (fun K hK=>?_)
      refine goes_ Try.func10 (by kernel_rfl) rfl #[.agg #[.slice dL cj.length eq,.slice dM ck.length er,.slice dN cl.length es],.agg #[.slice dO cm.length et,.slice dP cn.length eu,.slice dQ co.length ev]] (by rfl) rfl rfl (by (try simp only [List.map_toArray,List.map_cons,List.map_nil]);(rfl)) ?_
      with_reducible refine (lwsame.calls bB _ _ cj _ _ ck _ _ cl _ _ cm _ _ cn _ _ co ff _ ?az ?aA ?aH ?aI ?aJ ?aK ?bg ?bh ?bi ?bb ?bc ?bd fC.out).mono ?_
      (case az=>exact (Kd.R_reads' aZ.out).2.2)
      (case aA=>exact (Kd.R_reads' aZ.out).2.1)
      (case aH=>exact (Kd.R_reads' ba.out).2.2)
      (case aI=>exact (Kd.R_reads' ba.out).2.1)
      (case aJ=>exact (Kd.R_reads' be.out).2.2)
      (case aK=>exact (Kd.R_reads' be.out).2.1)
      (case bg=>exact (Kd.R_reads' bo.out).2.2)
      (case bh=>exact (Kd.R_reads' bo.out).2.1)
      (case bi=>exact (Kd.R_reads' bp.out).2.2)
      (case bb=>exact (Kd.R_reads' bp.out).2.1)
      (case bc=>exact (Kd.R_reads' bq.out).2.2)
      (case bd=>exact (Kd.R_reads' bq.out).2.1)
      rintro e gJ ⟨rfl,hb⟩
      refine ⟨_,rfl,?_⟩
      have cI:=Aside0.mk (Kd.R_below ad.out hb)
      have cJ:=Aside0.mk (Kd.R_below ae.out hb)
      have cK:=Aside0.mk (Kd.R_below ah.out hb)
      have fF:=Aside0.mk (Kd.R_below af.out hb)
      have fG:=Aside0.mk (Kd.R_below ag.out hb)
      have fH:=Aside0.mk (Kd.R_below aj.out hb)
      have fI:=Aside0.mk (Kd.R_below ai.out hb)
      have cL:=Aside0.mk (blk_below (g:=bD) (o:=.cells #[.slice (some bE) ab.length bj] 24 (0,0)) ac.out hb)
      have cM:=Aside0.mk (blk_below (g:=aS) (o:=.cells #[.slice av ((rdP ab a1).f0).length aw,.slice ax ((rdP ab a1).f1).length ay,.slice aB ((rdP ab a1).f2).length aC] 30 (0,0)) aa.out hb)
      have cN:=Aside0.mk (below_step HB.out hb)
      clear ad
      clear ae
      clear ah
      clear af
      clear ag
      clear aj
      clear ai
      clear aZ
      clear ba
      clear be
      clear bo
      clear bp
      clear bq
      clear ac
      clear aa
      clear HB
      have ac:=cL
      have aa:=cM
      have HB:=cN
      clear cI cJ cK fF fG fH fI cL cM cN
      (try clear hb)
      refine hK.out _ _ ⟨(bk_c aa.out 0).trans rfl,(bk_c aa.out 1).trans rfl,(bk_c aa.out 2).trans rfl⟩ (fun hHeld=>?_)
      clear hK K
      refine norm_ (a':=?_) ?_ ?_
      rotate_left
      ·show Act.put _ (some 58) _=_
       simp only [Act.put,s1,s2,s3,i64_w,i32_w]
       rfl
      refine pA 34 32 59 8589934591 ?_ HT_ (by kernel_rfl) rfl rfl (fun _ _ _ h=>h) (by rfl) ?_ ?_ ?_ ?_
      rotate_left
      intro w'
      go_simp
      with_reducible rfl
      rotate_left
      simp only [Act.put,s1,s2,s3,i64_w,i32_w]
      rfl
      refine pA 34 33 4 17179869183 ?_ HT_ (by kernel_rfl) rfl rfl (fun _ _ _ h=>h) (by rfl) ?_ ?_ ?_ ?_
      rotate_left
      intro w'
      go_simp
      with_reducible rfl
      rotate_left
      simp only [Act.put,s1,s2,s3,i64_w,i32_w]
      rfl
      refine done_ (done_of HT_.out (by kernel_rfl)) ?_
      try go_wp2
      go_ret
      exact ⟨by (first | rfl | (rw [hr_];rfl)),HB.out⟩
     replace cT:=Bool.eq_false_iff.mpr cT
     subst cT
     replace H:=iF H
     exact absurd (Option.some.inj H) (by rw [hr_];decide)
    replace cS:=Bool.eq_false_iff.mpr cS
    subst cS
    replace H:=iF H
    exact absurd (Option.some.inj H) (by rw [hr_];decide)
   replace cR:=Bool.eq_false_iff.mpr cR
   subst cR
   replace H:=iF H
   exact absurd (Option.some.inj H) (by rw [hr_];decide)
  replace cQ:=Bool.eq_false_iff.mpr cQ
  subst cQ
  replace H:=iF H
  exact absurd (Option.some.inj H) (by rw [hr_];decide)
 replace c4:=Bool.eq_false_iff.mpr c4
 subst c4
 replace H:=iF H
 exact absurd (Option.some.inj H) (by rw [hr_];decide)
end Go.Proofs.Ytedghbjmhcgilaa.POpt
end
