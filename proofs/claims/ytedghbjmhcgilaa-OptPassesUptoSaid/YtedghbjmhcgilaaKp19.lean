import Derived.Test.YtedghbjmhcgilaaKp5
import Derived.Test.YtedghbjmhcgilaaKp11
import Derived.Test.YtedghbjmhcgilaaKp18
set_option linter.unusedVariables false
set_option linter.unusedSimpArgs false
section
namespace Go.Proofs.Ytedghbjmhcgilaa.POpt
open Go.RowKit Go.Proofs.YtedghbjmhcgilaaW.PrintWords Go.Proofs.YtedghbjmhcgilaaW.PrintLast Go.Proofs.YtedghbjmhcgilaaW.PrintMore
mutual
def rgValid.l0:Nat→Int→List (S30)→Option (Bool)
  | 0,_,_=>none
  | k+1,x3,x246000=>if x3 < (x246000.length:Int) then (if 0≤x3 then ((rgrising.f k ((rdP x246000 x3).f2)).bind fun t248=>(if t248=true then ((rgisMessage.f x246000 x3).bind fun t249=>(if t249=true then ((rgdec.f x246000 ((rdP x246000 x3).f0) ((rdP x246000 x3).f1) ((rdP x246000 x3).f2)).bind fun t250=>(if t250=true then ((rgenc.f k x246000 ((rdP x246000 x3).f0) ((rdP x246000 x3).f1) ((rdP x246000 x3).f2)).bind fun t251=>(if t251=true then (rgValid.l0 k (wrap64 (x3+1)) x246000) else (some false))) else (some false))) else (if (((rdP x246000 x3).f2).length:Int) < 1 then (rgValid.j1 k x3 true x246000 ((rdP x246000 x3).f0) ((rdP x246000 x3).f1) ((rdP x246000 x3).f2)) else (rgValid.j1 k x3 (decide ((((rdP x246000 x3).f2).length:Int) > 128)) x246000 ((rdP x246000 x3).f0) ((rdP x246000 x3).f1) ((rdP x246000 x3).f2))))) else (some false))) else (none)) else (some true)
def rgValid.j1:Nat→Int→Bool→List (S30)→List (S35)→List (S35)→List (S37)→Option (Bool)
  | 0,_,_,_,_,_,_=>none
  | k+1,x3,x48,x246000,x248000,x248001,x248002=>if x48=true then (some false) else (rgValid.l1 k x3 0 x246000 x248000 x248001 x248002)
def rgValid.l1:Nat→Int→Int→List (S30)→List (S35)→List (S35)→List (S37)→Option (Bool)
  | 0,_,_,_,_,_,_=>none
  | k+1,x3,x5,x246000,x248000,x248001,x248002=>if x5 < (x248002.length:Int) then (if 0≤x5 then (if ((rdR x248002 x5).f0) < 0 then (some false) else (if ((rdR x248002 x5).f0) ≥ 2147483648 then (some false) else (if ((rdR x248002 x5).f1)=0 then (rgValid.l1 k x3 (wrap64 (x5+1)) x246000 x248000 x248001 x248002) else (some false)))) else (none)) else (rgValid.l0 k (wrap64 (x3+1)) x246000)
end
def rgValid.f (k:Nat) (l0_0:List (S30)):Option (Bool):=if (l0_0.length:Int) > 128 then (some false) else (rgValid.l0 k 0 l0_0)
theorem rgValid.mono_l:∀ k,(∀ y0 y1,LeO (rgValid.l0 k y0 y1) (rgValid.l0 (k+1) y0 y1))∧(∀ y0 y1 y2 y3 y4 y5,LeO (rgValid.j1 k y0 y1 y2 y3 y4 y5) (rgValid.j1 (k+1) y0 y1 y2 y3 y4 y5))∧(∀ y0 y1 y2 y3 y4 y5,LeO (rgValid.l1 k y0 y1 y2 y3 y4 y5) (rgValid.l1 (k+1) y0 y1 y2 y3 y4 y5))
  | 0=>⟨fun _ _ r h=>by simp [rgValid.l0] at h,fun _ _ _ _ _ _ r h=>by simp [rgValid.j1] at h,fun _ _ _ _ _ _ r h=>by simp [rgValid.l1] at h⟩
  | k+1=>by
    obtain ⟨ih0,ih1,ih2⟩:=rgValid.mono_l k
    refine ⟨?_,?_,?_⟩
    · intro y0 y1
      unfold rgValid.l0
      repeat' first | (with_reducible exact ih0 _ _) | (with_reducible exact ih1 _ _ _ _ _ _) | (with_reducible exact rgenc.mono _ _ _ _ _) | (with_reducible exact rgrising.mono _ _) | (with_reducible exact LeO.refl _) | (with_reducible refine LeO.ite ?_ ?_) | (with_reducible refine LeO.bind ?_ (fun _=>?_))
    · intro y0 y1 y2 y3 y4 y5
      unfold rgValid.j1
      repeat' first | (with_reducible exact ih2 _ _ _ _ _ _) | (with_reducible exact LeO.refl _) | (with_reducible refine LeO.ite ?_ ?_)
    · intro y0 y1 y2 y3 y4 y5
      unfold rgValid.l1
      repeat' first | (with_reducible exact ih0 _ _) | (with_reducible exact ih2 _ _ _ _ _ _) | (with_reducible exact LeO.refl _) | (with_reducible refine LeO.ite ?_ ?_)
theorem rgValid.mono:∀ a0 k,LeO (rgValid.f k a0) (rgValid.f (k+1) a0):=by
  intro a0 k
  obtain ⟨ih0,ih1,ih2⟩:=rgValid.mono_l k
  unfold rgValid.f
  repeat' first | (with_reducible exact ih0 _ _) | (with_reducible exact LeO.refl _) | (with_reducible refine LeO.ite ?_ ?_)
set_option maxHeartbeats 8000000 in
set_option maxRecDepth 100000 in
theorem rgValid.calls (k:Nat) (bf:Option Addr) (aL:Nat) (aa:List (S30)) (r:Bool) (w:World) (bx:Kd.C k30 w bf aa.length aa) (bw:aa.length≤aL) (h:rgValid.f k aa=some r) :
    Calls Try.prog 9 #[.agg #[.slice bf aa.length aL]] w fun e w'=>e=.returned (.bool r)∧Below w.heap.size w w':=by
 have fo:=Try.underlying24
 have fp:=Try.underlying30
 have aD:=Aside0.mk bx
 have aN:=Aside0.mk bw
 clear bx bw
 have HB:=Aside0.mk (Below.refl w.heap.size w)
 have H:(if (aa.length:Int) > 128 then (some false) else (rgValid.l0 k 0 aa))=some r:=h
 clear h
 by_cases c2:(aa.length:Int) > 128
 ·rw [if_pos c2] at H
  have bO:decide (128 < (aa.length:Int))=true:=decide_eq_true c2
  have bP:decide (128 < aa.length)=true:=decide_eq_true (by omega)
  clear c2
  obtain rfl:=Option.some.inj H
  go_enter Try.func9,Try.ntmps9
  go_wp2_with (((with_reducible refine gate_dst (N:=1) rfl ?_);(try (refine gate_guard (by rfl) ?_;dsimp only));refine box_event ?hg (N:=1) ?hd (cs:=#[.slice bf aa.length aL]) (t:=24) ?hr ?_;(case hd=>rfl);(case hg=>rfl);(case hr=>(go_simp;done));intro aP hg w3 hbox hb;have ad:=Aside0.mk hbox;have bN:=qz HB hg;have bM:=qz HB hg;replace HB:=qs HB hb;clear hb hbox hg;refine qc1 ad fun eF eG=>?_))
  go_ret
  exact ⟨by (rfl),HB.out⟩
 rw [if_neg c2] at H
 have bO:decide (128 < (aa.length:Int))=false:=decide_eq_false c2
 have bP:decide (128 < aa.length)=false:=decide_eq_false (by omega)
 clear c2
 have H':=Aside0.mk H
 clear H
 go_enter Try.func9,Try.ntmps9
 go_wp2_with (((with_reducible refine gate_dst (N:=1) rfl ?_);(try (refine gate_guard (by rfl) ?_;dsimp only));refine box_event ?hg (N:=1) ?hd (cs:=#[.slice bf aa.length aL]) (t:=24) ?hr ?_;(case hd=>rfl);(case hg=>rfl);(case hr=>(go_simp;done));intro aP hg w5 hbox hb;have ad:=Aside0.mk hbox;have bN:=qz HB hg;have bM:=qz HB hg;replace HB:=qs HB hb;clear hb hbox hg;refine qc1 ad fun bB bC=>?_))
 go_loopg [3] k (fun kq v3 w'=>∃ (ab:Int),v3=.int .i64 ab∧Aside0 (rgValid.l0 kq ab aa=some r)∧Aside0 (kq≤k)∧Aside0 (w'.heap[aP]?=some (.cells #[(.slice bf aa.length aL)] 24 (0,0)))∧Aside0 (Below w.heap.size w w'))
 case atStart=>exact ⟨(0),rfl,H',⟨Nat.le_refl _⟩,ad,HB⟩
 clear H'
 clear bO bP bB bC
 obtain ⟨ab,rfl,HA,bv,ad,HB⟩:=hrel
 obtain _ | k1:=gk
 ·exact absurd HA.out (by simp [rgValid.l0])
 have H:=HA.out
 clear HA
 simp only [rgValid.l0] at H
 by_cases c7:ab < (aa.length:Int)
 ·rw [if_pos c7] at H
  have bY:=decide_eq_true c7
  clear c7
  replace H:=iNd H
  obtain ⟨eE,H⟩:=H
  replace H:=Option.bind_eq_some_iff.mp H
  obtain ⟨eJ,eO,H⟩:=H
  try dsimp only at H
  have A9:=Aside0.mk eO
  clear eO
  by_cases ce:eJ=true
  ·subst ce
   replace H:=iP H
   replace H:=Option.bind_eq_some_iff.mp H
   obtain ⟨eK,bJ,H⟩:=H
   try dsimp only at H
   have cc:=Aside0.mk bJ
   clear bJ
   by_cases cf:eK=true
   ·subst cf
    replace H:=iP H
    replace H:=Option.bind_eq_some_iff.mp H
    obtain ⟨eL,bK,H⟩:=H
    try dsimp only at H
    have eD:=Aside0.mk bK
    clear bK
    by_cases cg:eL=true
    ·subst cg
     replace H:=iP H
     replace H:=Option.bind_eq_some_iff.mp H
     obtain ⟨eM,bL,H⟩:=H
     try dsimp only at H
     have eN:=Aside0.mk bL
     clear bL
     by_cases ch:eM=true
     ·subst ch
      replace H:=iP H
      have H':=Aside0.mk H
      clear H
      refine qc1 ad fun cj du=>?_
      have aE:0≤(ab:Int):=od
      have aF:ab < (aa.length:Int):=od
      obtain ⟨aC,ak,al,ar,au,am,an,aW,ah,ai,aj,ax,av,ay,aw,aq,ap⟩:=at_T30 aD.out ab aE aF
      cases aW
      replace ah:=(HB.out.cell (World.block_lt_of_cell? w _ ah)).trans ah
      replace ai:=(HB.out.cell (World.block_lt_of_cell? w _ ai)).trans ai
      replace aj:=(HB.out.cell (World.block_lt_of_cell? w _ aj)).trans aj
      have aI:=Aside0.mk av
      have aG:=Aside0.mk ax
      clear av ax
      have aJ:=Aside0.mk aw
      have aH:=Aside0.mk ay
      clear aw ay
      have af:=Aside0.mk ap
      have ao:=Aside0.mk aq
      clear ap aq
      replace aE:=eq_true aE
      replace aF:=eq_true aF
      go_wp2_with (first | ((with_reducible refine gate_dst (N:=4) rfl ?_);(try (refine gate_guard (by rfl) ?_;dsimp only));refine box_event ?hg (N:=4) ?hd (cs:=#[.slice none 0 0,.slice none 0 0,.slice none 0 0]) (t:=30) ?hr ?_;(case hd=>rfl);(case hg=>rfl);(case hr=>(go_simp;done));intro aM hg fr hbox hb;have ae:=Aside0.mk hbox;have bc:=qz HB hg;have az:=qz HB hg;replace HB:=qs HB hb;have ac:=qn ad hg;have ag:=qN ad hg;replace ad:=qb ad hb;clear hb hbox hg;have eQ:=ag.out;have fc:=ac.out;refine qc3 ae fun ck cl cm dv dw dx=>?_)|((with_reducible refine gate_callee (f:=29) rfl ?_);refine goesL_ (some 24) rfl rfl Try.func29 (by kernel_rfl) rfl #[.slice am ((rdP aa ab).f2).length an] rfl (by (try simp only [List.map_toArray,List.map_cons,List.map_nil]);(rfl)) ?_;(with_reducible refine (rgrising.calls k1 _ _ ((rdP aa ab).f2) true _ ?aA ?aB A9.out).mono ?_);(case aA=>exact Kd.C_below af.out (by repeat ((with_reducible first | exact HB.out | refine b_st ?_ az.out))));(case aB=>exact ao.out);rintro e w' ⟨rfl,⟨nd,rfl⟩⟩;refine ⟨_,rfl,?_⟩;refine qc1 ad fun cn dy=>?_)|((with_reducible refine gate_callee (f:=30) rfl ?_);refine goesL_ (some 28) rfl rfl Try.func30 (by kernel_rfl) rfl #[.agg #[.slice (some aC) aa.length aL],.int .i64 ab] rfl (by (try simp only [List.map_toArray,List.map_cons,List.map_nil]);(rfl)) ?_;(with_reducible refine (rgisMessage.calls _ _ aa ab true _ ?aA ?aB cc.out).mono ?_);(case aA=>exact Kd.C_below aD.out (by repeat ((with_reducible first | exact HB.out | apply pwbd | refine b_st ?_ az.out))));(case aB=>exact aN.out);rintro e fs ⟨rfl,hb⟩;refine ⟨_,rfl,?_⟩;replace ad:=Aside0.mk (blk_below (g:=aP) (o:=.cells #[.slice (some aC) aa.length aL] 24 (0,0)) (by (with_reducible repeat (refine bk_N ?_ _));refine blk_far ?_ ac.out _;refine blk_far ?_ ac.out _;refine blk_far ?_ ac.out _;exact ad.out) hb);replace ae:=Aside0.mk (blk_below (g:=aM) (o:=.cells #[.slice ak ((rdP aa ab).f0).length al,.slice ar ((rdP aa ab).f1).length au,.slice am ((rdP aa ab).f2).length an] 30 (0,0)) (by (with_reducible repeat (refine bk_N ?_ _));refine blk_put (cs:=#[.slice ak ((rdP aa ab).f0).length al,.slice ar ((rdP aa ab).f1).length au,.slice none 0 0]) ?_ 2 _ rfl;refine blk_put (cs:=#[.slice ak ((rdP aa ab).f0).length al,.slice none 0 0,.slice none 0 0]) ?_ 1 _ rfl;refine blk_put (cs:=#[.slice none 0 0,.slice none 0 0,.slice none 0 0]) ?_ 0 _ rfl;exact ae.out) hb);replace HB:=Aside0.mk (below_step (by repeat ((with_reducible first | exact HB.out | apply pwbd | refine b_st ?_ az.out))) hb);(try clear hb);refine qc1 ad fun co dz=>?_;refine qc3 ae fun cp cq cr dA dB dC=>?_)|((with_reducible refine gate_callee (f:=31) rfl ?_);refine goesL_ (some 31) rfl rfl Try.func31 (by kernel_rfl) rfl #[.agg #[.slice (some aC) aa.length aL],.agg #[.slice ak ((rdP aa ab).f0).length al,.slice ar ((rdP aa ab).f1).length au,.slice am ((rdP aa ab).f2).length an]] rfl (by (try simp only [List.map_toArray,List.map_cons,List.map_nil]);(rfl)) ?_;(with_reducible refine (rgdec.calls _ _ aa _ _ ((rdP aa ab).f0) _ _ ((rdP aa ab).f1) _ _ ((rdP aa ab).f2) true _ ?aA ?aB ?aQ ?aR ?aS ?aT ?aU ?aV eD.out).mono ?_);(case aA=>exact (Kd.C_below aD.out HB.out));(case aB=>exact aN.out);(case aQ=>exact (Kd.C_below aI.out HB.out));(case aR=>exact aG.out);(case aS=>exact (Kd.C_below aJ.out HB.out));(case aT=>exact aH.out);(case aU=>exact (Kd.C_below af.out HB.out));(case aV=>exact ao.out);rintro e ft ⟨rfl,hb⟩;refine ⟨_,rfl,?_⟩;replace ad:=qb ad hb;replace ae:=qb ae hb;replace HB:=qs HB hb;(try clear hb);refine qc1 ad fun ct dD=>?_;refine qc3 ae fun cu cv cw dE dF dG=>?_)|(go_at_call 32;(with_reducible refine (rgenc.calls k1 _ _ aa _ _ ((rdP aa ab).f0) _ _ ((rdP aa ab).f1) _ _ ((rdP aa ab).f2) true _ ?aA ?aB ?aQ ?aR ?aS ?aT ?aU ?aV eN.out).mono ?_);(case aA=>exact (Kd.C_below aD.out HB.out));(case aB=>exact aN.out);(case aQ=>exact (Kd.C_below aI.out HB.out));(case aR=>exact aG.out);(case aS=>exact (Kd.C_below aJ.out HB.out));(case aT=>exact aH.out);(case aU=>exact (Kd.C_below af.out HB.out));(case aV=>exact ao.out);rintro e fu ⟨rfl,hb⟩;replace ad:=qb ad hb;replace ae:=qb ae hb;replace HB:=qs HB hb;(try clear hb)))
      go_roundg k1
      case measure=>have:=bv.out;omega
      case rel=>exact ⟨(wrap64 (ab+1)),rfl,H',⟨by have:=bv.out;omega⟩,ad,HB⟩
     replace ch:=Bool.eq_false_iff.mpr ch
     subst ch
     replace H:=iF H
     obtain rfl:=Option.some.inj H
     refine qc1 ad fun cx dH=>?_
     have aE:0≤(ab:Int):=od
     have aF:ab < (aa.length:Int):=od
     obtain ⟨aC,ak,al,ar,au,am,an,aW,ah,ai,aj,ax,av,ay,aw,aq,ap⟩:=at_T30 aD.out ab aE aF
     cases aW
     replace ah:=(HB.out.cell (World.block_lt_of_cell? w _ ah)).trans ah
     replace ai:=(HB.out.cell (World.block_lt_of_cell? w _ ai)).trans ai
     replace aj:=(HB.out.cell (World.block_lt_of_cell? w _ aj)).trans aj
     have aI:=Aside0.mk av
     have aG:=Aside0.mk ax
     clear av ax
     have aJ:=Aside0.mk aw
     have aH:=Aside0.mk ay
     clear aw ay
     have af:=Aside0.mk ap
     have ao:=Aside0.mk aq
     clear ap aq
     replace aE:=eq_true aE
     replace aF:=eq_true aF
     go_wp2_with (first | ((with_reducible refine gate_dst (N:=4) rfl ?_);(try (refine gate_guard (by rfl) ?_;dsimp only));refine box_event ?hg (N:=4) ?hd (cs:=#[.slice none 0 0,.slice none 0 0,.slice none 0 0]) (t:=30) ?hr ?_;(case hd=>rfl);(case hg=>rfl);(case hr=>(go_simp;done));intro aM hg fv hbox hb;have ae:=Aside0.mk hbox;have bc:=qz HB hg;have az:=qz HB hg;replace HB:=qs HB hb;have ac:=qn ad hg;have ag:=qN ad hg;replace ad:=qb ad hb;clear hb hbox hg;have eR:=ag.out;have fd:=ac.out;refine qc3 ae fun cy cz cA dI dJ dK=>?_)|((with_reducible refine gate_callee (f:=29) rfl ?_);refine goesL_ (some 24) rfl rfl Try.func29 (by kernel_rfl) rfl #[.slice am ((rdP aa ab).f2).length an] rfl (by (try simp only [List.map_toArray,List.map_cons,List.map_nil]);(rfl)) ?_;(with_reducible refine (rgrising.calls k1 _ _ ((rdP aa ab).f2) true _ ?aA ?aB A9.out).mono ?_);(case aA=>exact Kd.C_below af.out (by repeat ((with_reducible first | exact HB.out | refine b_st ?_ az.out))));(case aB=>exact ao.out);rintro e w' ⟨rfl,⟨nd,rfl⟩⟩;refine ⟨_,rfl,?_⟩;refine qc1 ad fun cB dL=>?_)|((with_reducible refine gate_callee (f:=30) rfl ?_);refine goesL_ (some 28) rfl rfl Try.func30 (by kernel_rfl) rfl #[.agg #[.slice (some aC) aa.length aL],.int .i64 ab] rfl (by (try simp only [List.map_toArray,List.map_cons,List.map_nil]);(rfl)) ?_;(with_reducible refine (rgisMessage.calls _ _ aa ab true _ ?aA ?aB cc.out).mono ?_);(case aA=>exact Kd.C_below aD.out (by repeat ((with_reducible first | exact HB.out | apply pwbd | refine b_st ?_ az.out))));(case aB=>exact aN.out);rintro e fw ⟨rfl,hb⟩;refine ⟨_,rfl,?_⟩;replace ad:=Aside0.mk (blk_below (g:=aP) (o:=.cells #[.slice (some aC) aa.length aL] 24 (0,0)) (by (with_reducible repeat (refine bk_N ?_ _));refine blk_far ?_ ac.out _;refine blk_far ?_ ac.out _;refine blk_far ?_ ac.out _;exact ad.out) hb);replace ae:=Aside0.mk (blk_below (g:=aM) (o:=.cells #[.slice ak ((rdP aa ab).f0).length al,.slice ar ((rdP aa ab).f1).length au,.slice am ((rdP aa ab).f2).length an] 30 (0,0)) (by (with_reducible repeat (refine bk_N ?_ _));refine blk_put (cs:=#[.slice ak ((rdP aa ab).f0).length al,.slice ar ((rdP aa ab).f1).length au,.slice none 0 0]) ?_ 2 _ rfl;refine blk_put (cs:=#[.slice ak ((rdP aa ab).f0).length al,.slice none 0 0,.slice none 0 0]) ?_ 1 _ rfl;refine blk_put (cs:=#[.slice none 0 0,.slice none 0 0,.slice none 0 0]) ?_ 0 _ rfl;exact ae.out) hb);replace HB:=Aside0.mk (below_step (by repeat ((with_reducible first | exact HB.out | apply pwbd | refine b_st ?_ az.out))) hb);(try clear hb);refine qc1 ad fun cC dM=>?_;refine qc3 ae fun cD cE cF dN dO dP=>?_)|((with_reducible refine gate_callee (f:=31) rfl ?_);refine goesL_ (some 31) rfl rfl Try.func31 (by kernel_rfl) rfl #[.agg #[.slice (some aC) aa.length aL],.agg #[.slice ak ((rdP aa ab).f0).length al,.slice ar ((rdP aa ab).f1).length au,.slice am ((rdP aa ab).f2).length an]] rfl (by (try simp only [List.map_toArray,List.map_cons,List.map_nil]);(rfl)) ?_;(with_reducible refine (rgdec.calls _ _ aa _ _ ((rdP aa ab).f0) _ _ ((rdP aa ab).f1) _ _ ((rdP aa ab).f2) true _ ?aA ?aB ?aQ ?aR ?aS ?aT ?aU ?aV eD.out).mono ?_);(case aA=>exact (Kd.C_below aD.out HB.out));(case aB=>exact aN.out);(case aQ=>exact (Kd.C_below aI.out HB.out));(case aR=>exact aG.out);(case aS=>exact (Kd.C_below aJ.out HB.out));(case aT=>exact aH.out);(case aU=>exact (Kd.C_below af.out HB.out));(case aV=>exact ao.out);rintro e fx ⟨rfl,hb⟩;refine ⟨_,rfl,?_⟩;replace ad:=qb ad hb;replace ae:=qb ae hb;replace HB:=qs HB hb;(try clear hb);refine qc1 ad fun cG dQ=>?_;refine qc3 ae fun cH cI cJ dR dS dT=>?_)|(go_at_call 32;(with_reducible refine (rgenc.calls k1 _ _ aa _ _ ((rdP aa ab).f0) _ _ ((rdP aa ab).f1) _ _ ((rdP aa ab).f2) false _ ?aA ?aB ?aQ ?aR ?aS ?aT ?aU ?aV eN.out).mono ?_);(case aA=>exact (Kd.C_below aD.out HB.out));(case aB=>exact aN.out);(case aQ=>exact (Kd.C_below aI.out HB.out));(case aR=>exact aG.out);(case aS=>exact (Kd.C_below aJ.out HB.out));(case aT=>exact aH.out);(case aU=>exact (Kd.C_below af.out HB.out));(case aV=>exact ao.out);rintro e fy ⟨rfl,hb⟩;replace ad:=qb ad hb;replace ae:=qb ae hb;replace HB:=qs HB hb;(try clear hb)))
     go_ret
     exact ⟨by (rfl),HB.out⟩
    replace cg:=Bool.eq_false_iff.mpr cg
    subst cg
    replace H:=iF H
    obtain rfl:=Option.some.inj H
    refine qc1 ad fun cK dU=>?_
    have aE:0≤(ab:Int):=od
    have aF:ab < (aa.length:Int):=od
    obtain ⟨aC,ak,al,ar,au,am,an,aW,ah,ai,aj,ax,av,ay,aw,aq,ap⟩:=at_T30 aD.out ab aE aF
    cases aW
    replace ah:=(HB.out.cell (World.block_lt_of_cell? w _ ah)).trans ah
    replace ai:=(HB.out.cell (World.block_lt_of_cell? w _ ai)).trans ai
    replace aj:=(HB.out.cell (World.block_lt_of_cell? w _ aj)).trans aj
    have aI:=Aside0.mk av
    have aG:=Aside0.mk ax
    clear av ax
    have aJ:=Aside0.mk aw
    have aH:=Aside0.mk ay
    clear aw ay
    have af:=Aside0.mk ap
    have ao:=Aside0.mk aq
    clear ap aq
    replace aE:=eq_true aE
    replace aF:=eq_true aF
    go_wp2_with (first | ((with_reducible refine gate_dst (N:=4) rfl ?_);(try (refine gate_guard (by rfl) ?_;dsimp only));refine box_event ?hg (N:=4) ?hd (cs:=#[.slice none 0 0,.slice none 0 0,.slice none 0 0]) (t:=30) ?hr ?_;(case hd=>rfl);(case hg=>rfl);(case hr=>(go_simp;done));intro aM hg fz hbox hb;have ae:=Aside0.mk hbox;have bc:=qz HB hg;have az:=qz HB hg;replace HB:=qs HB hb;have ac:=qn ad hg;have ag:=qN ad hg;replace ad:=qb ad hb;clear hb hbox hg;have eS:=ag.out;have fe:=ac.out;refine qc3 ae fun cL cM cN dV dW dX=>?_)|((with_reducible refine gate_callee (f:=29) rfl ?_);refine goesL_ (some 24) rfl rfl Try.func29 (by kernel_rfl) rfl #[.slice am ((rdP aa ab).f2).length an] rfl (by (try simp only [List.map_toArray,List.map_cons,List.map_nil]);(rfl)) ?_;(with_reducible refine (rgrising.calls k1 _ _ ((rdP aa ab).f2) true _ ?aA ?aB A9.out).mono ?_);(case aA=>exact Kd.C_below af.out (by repeat ((with_reducible first | exact HB.out | refine b_st ?_ az.out))));(case aB=>exact ao.out);rintro e w' ⟨rfl,⟨nd,rfl⟩⟩;refine ⟨_,rfl,?_⟩;refine qc1 ad fun cO dY=>?_)|((with_reducible refine gate_callee (f:=30) rfl ?_);refine goesL_ (some 28) rfl rfl Try.func30 (by kernel_rfl) rfl #[.agg #[.slice (some aC) aa.length aL],.int .i64 ab] rfl (by (try simp only [List.map_toArray,List.map_cons,List.map_nil]);(rfl)) ?_;(with_reducible refine (rgisMessage.calls _ _ aa ab true _ ?aA ?aB cc.out).mono ?_);(case aA=>exact Kd.C_below aD.out (by repeat ((with_reducible first | exact HB.out | apply pwbd | refine b_st ?_ az.out))));(case aB=>exact aN.out);rintro e fA ⟨rfl,hb⟩;refine ⟨_,rfl,?_⟩;replace ad:=Aside0.mk (blk_below (g:=aP) (o:=.cells #[.slice (some aC) aa.length aL] 24 (0,0)) (by (with_reducible repeat (refine bk_N ?_ _));refine blk_far ?_ ac.out _;refine blk_far ?_ ac.out _;refine blk_far ?_ ac.out _;exact ad.out) hb);replace ae:=Aside0.mk (blk_below (g:=aM) (o:=.cells #[.slice ak ((rdP aa ab).f0).length al,.slice ar ((rdP aa ab).f1).length au,.slice am ((rdP aa ab).f2).length an] 30 (0,0)) (by (with_reducible repeat (refine bk_N ?_ _));refine blk_put (cs:=#[.slice ak ((rdP aa ab).f0).length al,.slice ar ((rdP aa ab).f1).length au,.slice none 0 0]) ?_ 2 _ rfl;refine blk_put (cs:=#[.slice ak ((rdP aa ab).f0).length al,.slice none 0 0,.slice none 0 0]) ?_ 1 _ rfl;refine blk_put (cs:=#[.slice none 0 0,.slice none 0 0,.slice none 0 0]) ?_ 0 _ rfl;exact ae.out) hb);replace HB:=Aside0.mk (below_step (by repeat ((with_reducible first | exact HB.out | apply pwbd | refine b_st ?_ az.out))) hb);(try clear hb);refine qc1 ad fun cP dZ=>?_;refine qc3 ae fun cQ cR cS ea eb ec=>?_)|((with_reducible refine gate_callee (f:=31) rfl ?_);refine goesL_ (some 31) rfl rfl Try.func31 (by kernel_rfl) rfl #[.agg #[.slice (some aC) aa.length aL],.agg #[.slice ak ((rdP aa ab).f0).length al,.slice ar ((rdP aa ab).f1).length au,.slice am ((rdP aa ab).f2).length an]] rfl (by (try simp only [List.map_toArray,List.map_cons,List.map_nil]);(rfl)) ?_;(with_reducible refine (rgdec.calls _ _ aa _ _ ((rdP aa ab).f0) _ _ ((rdP aa ab).f1) _ _ ((rdP aa ab).f2) false _ ?aA ?aB ?aQ ?aR ?aS ?aT ?aU ?aV eD.out).mono ?_);(case aA=>exact (Kd.C_below aD.out HB.out));(case aB=>exact aN.out);(case aQ=>exact (Kd.C_below aI.out HB.out));(case aR=>exact aG.out);(case aS=>exact (Kd.C_below aJ.out HB.out));(case aT=>exact aH.out);(case aU=>exact (Kd.C_below af.out HB.out));(case aV=>exact ao.out);rintro e fB ⟨rfl,hb⟩;refine ⟨_,rfl,?_⟩;replace ad:=qb ad hb;replace ae:=qb ae hb;replace HB:=qs HB hb;(try clear hb)))
    go_ret
    exact ⟨by (rfl),HB.out⟩
   replace cf:=Bool.eq_false_iff.mpr cf
   subst cf
   replace H:=iF H
   have bz:=Aside0.mk H
   clear H
   refine qc1 ad fun bj bo=>?_
   have aE:0≤(ab:Int):=od
   have aF:ab < (aa.length:Int):=od
   obtain ⟨aC,ak,al,ar,au,am,an,aW,ah,ai,aj,ax,av,ay,aw,aq,ap⟩:=at_T30 aD.out ab aE aF
   cases aW
   replace ah:=(HB.out.cell (World.block_lt_of_cell? w _ ah)).trans ah
   replace ai:=(HB.out.cell (World.block_lt_of_cell? w _ ai)).trans ai
   replace aj:=(HB.out.cell (World.block_lt_of_cell? w _ aj)).trans aj
   clear av ax
   clear aw ay
   have af:=Aside0.mk ap
   have ao:=Aside0.mk aq
   clear ap aq
   replace aE:=eq_true aE
   replace aF:=eq_true aF
   go_upto_region 12 with (first | ((with_reducible refine gate_dst (N:=4) rfl ?_);(try (refine gate_guard (by rfl) ?_;dsimp only));refine box_event ?hg (N:=4) ?hd (cs:=#[.slice none 0 0,.slice none 0 0,.slice none 0 0]) (t:=30) ?hr ?_;(case hd=>rfl);(case hg=>rfl);(case hr=>(go_simp;done));intro aM hg fC hbox hb;have ae:=Aside0.mk hbox;have bc:=qz HB hg;have az:=qz HB hg;replace HB:=qs HB hb;have ac:=qn ad hg;have ag:=qN ad hg;replace ad:=qb ad hb;clear hb hbox hg;have eT:=ag.out;have ff:=ac.out;refine qc3 ae fun bk bl bm bp bq br=>?_)|((with_reducible refine gate_callee (f:=29) rfl ?_);refine goesL_ (some 24) rfl rfl Try.func29 (by kernel_rfl) rfl #[.slice am ((rdP aa ab).f2).length an] rfl (by (try simp only [List.map_toArray,List.map_cons,List.map_nil]);(rfl)) ?_;(with_reducible refine (rgrising.calls k1 _ _ ((rdP aa ab).f2) true _ ?aA ?aB A9.out).mono ?_);(case aA=>exact Kd.C_below af.out (by repeat ((with_reducible first | exact HB.out | refine b_st ?_ az.out))));(case aB=>exact ao.out);rintro e w' ⟨rfl,⟨nd,rfl⟩⟩;refine ⟨_,rfl,?_⟩;refine qc1 ad fun bn bs=>?_)|((with_reducible refine gate_callee (f:=30) rfl ?_);refine goesL_ (some 28) rfl rfl Try.func30 (by kernel_rfl) rfl #[.agg #[.slice (some aC) aa.length aL],.int .i64 ab] rfl (by (try simp only [List.map_toArray,List.map_cons,List.map_nil]);(rfl)) ?_;(with_reducible refine (rgisMessage.calls _ _ aa ab false _ ?aA ?aB cc.out).mono ?_);(case aA=>exact Kd.C_below aD.out (by repeat ((with_reducible first | exact HB.out | apply pwbd | refine b_st ?_ az.out))));(case aB=>exact aN.out);rintro e fD ⟨rfl,hb⟩;refine ⟨_,rfl,?_⟩;replace ad:=Aside0.mk (blk_below (g:=aP) (o:=.cells #[.slice (some aC) aa.length aL] 24 (0,0)) (by (with_reducible repeat (refine bk_N ?_ _));refine blk_far ?_ ac.out _;refine blk_far ?_ ac.out _;refine blk_far ?_ ac.out _;exact ad.out) hb);replace ae:=Aside0.mk (blk_below (g:=aM) (o:=.cells #[.slice ak ((rdP aa ab).f0).length al,.slice ar ((rdP aa ab).f1).length au,.slice am ((rdP aa ab).f2).length an] 30 (0,0)) (by (with_reducible repeat (refine bk_N ?_ _));refine blk_put (cs:=#[.slice ak ((rdP aa ab).f0).length al,.slice ar ((rdP aa ab).f1).length au,.slice none 0 0]) ?_ 2 _ rfl;refine blk_put (cs:=#[.slice ak ((rdP aa ab).f0).length al,.slice none 0 0,.slice none 0 0]) ?_ 1 _ rfl;refine blk_put (cs:=#[.slice none 0 0,.slice none 0 0,.slice none 0 0]) ?_ 0 _ rfl;exact ae.out) hb);replace HB:=Aside0.mk (below_step (by repeat ((with_reducible first | exact HB.out | apply pwbd | refine b_st ?_ az.out))) hb);(try clear hb)))
   (try simp only [Act.put,s1,s2,s3])
   go_cut [48] (fun fq wc=>∃ (kq:Nat) (aZ:Bool),fq=.bool aZ∧Aside0 (rgValid.j1 kq ab aZ aa ((rdP aa ab).f0) ((rdP aa ab).f1) ((rdP aa ab).f2)=some r)∧Aside0 (kq≤k1)∧Aside0 (wc.heap[aP]?=some (.cells #[(.slice (some aC) aa.length aL)] 24 (0,0)))∧Aside0 (wc.heap[aM]?=some (.cells #[(.slice ak ((rdP aa ab).f0).length al),(.slice ar ((rdP aa ab).f1).length au),(.slice am ((rdP aa ab).f2).length an)] 30 (0,0)))∧Aside0 (Below w.heap.size w wc))
   case first =>
    have H:=bz.out
    clear bz
    by_cases bF:(((rdP aa ab).f2).length:Int) < 1
    ·rw [if_pos bF] at H
     have bQ:=decide_eq_true bF
     have bR:decide (((rdP aa ab).f2).length < 1)=true:=decide_eq_true (by omega)
     clear bF
     have H':=Aside0.mk H
     clear H
     have eU:=ag.out
     have fg:=ac.out
     refine qc3 ae fun cT cU cV ed ee ef=>?_
     go_wp2
     go_meet
     case rel=>exact ⟨_,(true),rfl,H',⟨by have:=bv.out;(omega)⟩,ad,ae,HB⟩
    rw [if_neg bF] at H
    have bQ:=decide_eq_false bF
    have bR:decide (((rdP aa ab).f2).length < 1)=false:=decide_eq_false (by omega)
    clear bF
    have H':=Aside0.mk H
    clear H
    have eV:=ag.out
    have fh:=ac.out
    refine qc3 ae fun cW cX cY eg eh ei=>?_
    go_wp2
    go_meet
    case rel=>exact ⟨_,(decide ((((rdP aa ab).f2).length:Int) > 128)),rfl,H',⟨by have:=bv.out;(omega)⟩,ad,ae,HB⟩
   clear bz
   clear bY eE bj bk bl bm bn bo bp bq br bs ah ai aj aE aF
   obtain ⟨kq,aZ,rfl,HA,bi,ad,ae,HB⟩:=hcut
   obtain _ | bZ:=kq
   ·exact absurd HA.out (by simp [rgValid.j1])
   have H:=HA.out
   clear HA
   simp only [rgValid.j1] at H
   by_cases ci:aZ=true
   ·subst ci
    replace H:=iP H
    obtain rfl:=Option.some.inj H
    go_wp2
    go_ret
    exact ⟨by (rfl),HB.out⟩
   replace ci:=Bool.eq_false_iff.mpr ci
   subst ci
   replace H:=iF H
   have H':=Aside0.mk H
   clear H
   go_wp2
   go_loopg [5] bZ (fun kq v5 w'=>∃ (aK:Int),v5=.int .i64 aK∧Aside0 (rgValid.l1 kq ab aK aa ((rdP aa ab).f0) ((rdP aa ab).f1) ((rdP aa ab).f2)=some r)∧Aside0 (kq≤bZ)∧Aside0 (w'.heap[aP]?=some (.cells #[(.slice (some aC) aa.length aL)] 24 (0,0)))∧Aside0 (w'.heap[aM]?=some (.cells #[(.slice ak ((rdP aa ab).f0).length al),(.slice ar ((rdP aa ab).f1).length au),(.slice am ((rdP aa ab).f2).length an)] 30 (0,0)))∧Aside0 (Below w.heap.size w w'))
   case atStart=>exact ⟨(0),rfl,H',⟨Nat.le_refl _⟩,ad,ae,HB⟩
   clear H'
   obtain ⟨aK,rfl,HA,cd,ad,ae,HB⟩:=hrel
   obtain _ | k3:=gk
   ·exact absurd HA.out (by simp [rgValid.l1])
   have H:=HA.out
   clear HA
   simp only [rgValid.l1] at H
   by_cases bG:aK < (((rdP aa ab).f2).length:Int)
   ·rw [if_pos bG] at H
    have bS:=decide_eq_true bG
    clear bG
    replace H:=iNd H
    obtain ⟨eP,H⟩:=H
    by_cases bH:((rdR ((rdP aa ab).f2) aK).f0) < 0
    ·rw [if_pos bH] at H
     have bT:=decide_eq_true bH
     clear bH
     obtain rfl:=Option.some.inj H
     have eW:=ag.out
     have fi:=ac.out
     refine qc3 ae fun cZ da db ej ek el=>?_
     obtain ⟨aO,bb,bD,bE,aX,aY⟩:=rd37 af HB aK
     cases bb
     go_wp2
     go_ret
     exact ⟨by (rfl),HB.out⟩
    rw [if_neg bH] at H
    have bT:=decide_eq_false bH
    clear bH
    by_cases bI:((rdR ((rdP aa ab).f2) aK).f0) ≥ 2147483648
    ·rw [if_pos bI] at H
     have bU:decide (2147483648≤((rdR ((rdP aa ab).f2) aK).f0))=true:=decide_eq_true bI
     clear bI
     obtain rfl:=Option.some.inj H
     have eX:=ag.out
     have fj:=ac.out
     refine qc3 ae fun dc dd de em en eo=>?_
     obtain ⟨aO,bb,bD,bE,aX,aY⟩:=rd37 af HB aK
     cases bb
     obtain ⟨ba,bh,ca,cb,bd,be⟩:=rd37 af HB aK
     obtain rfl:aO=ba:=(by injection bh)
     go_wp2
     go_ret
     exact ⟨by (rfl),HB.out⟩
    rw [if_neg bI] at H
    have bU:decide (2147483648≤((rdR ((rdP aa ab).f2) aK).f0))=false:=decide_eq_false bI
    clear bI
    by_cases bV:((rdR ((rdP aa ab).f2) aK).f1)=0
    ·rw [if_pos bV] at H
     obtain ⟨bW,bX⟩:=cBt bV
     clear bV
     have H':=Aside0.mk H
     clear H
     have eY:=ag.out
     have fk:=ac.out
     refine qc3 ae fun df dg dh ep eq er=>?_
     obtain ⟨aO,bb,bD,bE,aX,aY⟩:=rd37 af HB aK
     cases bb
     obtain ⟨ba,bh,ca,cb,bd,be⟩:=rd37 af HB aK
     obtain rfl:aO=ba:=(by injection bh)
     obtain ⟨bg,bA,eH,eI,bt,bu⟩:=rd37 af HB aK
     obtain rfl:aO=bg:=(by injection bA)
     go_wp2
     go_roundg k3
     case measure=>have:=bv.out;have:=bi.out;have:=cd.out;omega
     case rel=>exact ⟨(wrap64 (aK+1)),rfl,H',⟨by have:=bv.out;have:=bi.out;have:=cd.out;omega⟩,ad,ae,HB⟩
    rw [if_neg bV] at H
    obtain ⟨bW,bX⟩:=cBf bV
    obtain rfl:=Option.some.inj H
    have eZ:=ag.out
    have fl:=ac.out
    refine qc3 ae fun di dj dk es et eu=>?_
    obtain ⟨aO,bb,bD,bE,aX,aY⟩:=rd37 af HB aK
    cases bb
    obtain ⟨ba,bh,ca,cb,bd,be⟩:=rd37 af HB aK
    obtain rfl:aO=ba:=(by injection bh)
    obtain ⟨bg,bA,eH,eI,bt,bu⟩:=rd37 af HB aK
    obtain rfl:aO=bg:=(by injection bA)
    go_wp2
    go_ret
    exact ⟨by (rfl),HB.out⟩
   rw [if_neg bG] at H
   have bS:=decide_eq_false bG
   clear bG
   have H':=Aside0.mk H
   clear H
   have fa:=ag.out
   have fm:=ac.out
   refine qc3 ae fun dl dm dn ev ew ex=>?_
   go_wp2
   go_roundg k3
   case measure=>have:=bv.out;have:=bi.out;have:=cd.out;omega
   case rel=>exact ⟨(wrap64 (ab+1)),rfl,H',⟨by have:=bv.out;have:=bi.out;have:=cd.out;omega⟩,ad,HB⟩
  replace ce:=Bool.eq_false_iff.mpr ce
  subst ce
  replace H:=iF H
  obtain rfl:=Option.some.inj H
  refine qc1 ad fun dp ey=>?_
  have aE:0≤(ab:Int):=od
  have aF:ab < (aa.length:Int):=od
  obtain ⟨aC,ak,al,ar,au,am,an,aW,ah,ai,aj,ax,av,ay,aw,aq,ap⟩:=at_T30 aD.out ab aE aF
  cases aW
  replace ah:=(HB.out.cell (World.block_lt_of_cell? w _ ah)).trans ah
  replace ai:=(HB.out.cell (World.block_lt_of_cell? w _ ai)).trans ai
  replace aj:=(HB.out.cell (World.block_lt_of_cell? w _ aj)).trans aj
  clear av ax
  clear aw ay
  have af:=Aside0.mk ap
  have ao:=Aside0.mk aq
  clear ap aq
  replace aE:=eq_true aE
  replace aF:=eq_true aF
  go_wp2_with (first | ((with_reducible refine gate_dst (N:=4) rfl ?_);(try (refine gate_guard (by rfl) ?_;dsimp only));refine box_event ?hg (N:=4) ?hd (cs:=#[.slice none 0 0,.slice none 0 0,.slice none 0 0]) (t:=30) ?hr ?_;(case hd=>rfl);(case hg=>rfl);(case hr=>(go_simp;done));intro aM hg fE hbox hb;have ae:=Aside0.mk hbox;have bc:=qz HB hg;have az:=qz HB hg;replace HB:=qs HB hb;have ac:=qn ad hg;have ag:=qN ad hg;replace ad:=qb ad hb;clear hb hbox hg;have fb:=ag.out;have fn:=ac.out;refine qc3 ae fun dq dr ds ez eA eB=>?_)|((with_reducible refine gate_callee (f:=29) rfl ?_);refine goesL_ (some 24) rfl rfl Try.func29 (by kernel_rfl) rfl #[.slice am ((rdP aa ab).f2).length an] rfl (by (try simp only [List.map_toArray,List.map_cons,List.map_nil]);(rfl)) ?_;(with_reducible refine (rgrising.calls k1 _ _ ((rdP aa ab).f2) false _ ?aA ?aB A9.out).mono ?_);(case aA=>exact Kd.C_below af.out (by repeat ((with_reducible first | exact HB.out | refine b_st ?_ az.out))));(case aB=>exact ao.out);rintro e w' ⟨rfl,⟨nd,rfl⟩⟩;refine ⟨_,rfl,?_⟩))
  go_ret
  exact ⟨by (rfl),by repeat ((with_reducible first | exact HB.out | apply pwbd | refine b_st ?_ az.out))⟩
 rw [if_neg c7] at H
 have bY:=decide_eq_false c7
 clear c7
 obtain rfl:=Option.some.inj H
 refine qc1 ad fun dt eC=>?_
 go_wp2
 go_ret
 exact ⟨by (rfl),HB.out⟩
end Go.Proofs.Ytedghbjmhcgilaa.POpt
end
