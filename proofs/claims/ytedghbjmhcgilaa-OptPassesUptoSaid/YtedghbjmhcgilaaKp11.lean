import Derived.OwnWalk
import Derived.Lib.Hide
import Derived.Test.YtedghbjmhcgilaaKp5
import Derived.Test.YtedghbjmhcgilaaKp6
import Derived.Test.YtedghbjmhcgilaaKp7
import Derived.Test.YtedghbjmhcgilaaKp9
import Derived.Test.YtedghbjmhcgilaaKp10
set_option linter.unusedVariables false
set_option linter.unusedSimpArgs false
section
namespace Go.Proofs.Ytedghbjmhcgilaa.POpt
open Go.RowKit Go.Proofs.YtedghbjmhcgilaaW.PrintWords Go.Proofs.YtedghbjmhcgilaaW.PrintLast Go.Proofs.YtedghbjmhcgilaaW.PrintMore
def rfBlock.f (k:Nat) (l0_0:List (S35)) (l0_1:List (S35)) (l0_2:List (S37)):Option ((List (S35)) × (List (S35)) × (List (S37))):=(rfisEnum.f l0_0 l0_1 l0_2).bind fun t512=>(if t512=true then ((rfcopied.f l0_0 l0_1 l0_2).bind fun bt513=>(some (bt513.1,bt513.2.1,bt513.2.2))) else ((rfTables.f k l0_0 l0_1 l0_2).bind fun bt522=>((rfFuse.f k bt522.1 bt522.2.1 bt522.2.2).bind fun bt531=>((rfThread.f k bt531.1 bt531.2.1 bt531.2.2).bind fun bt540=>((rfTrim.f k bt540.1 bt540.2.1 bt540.2.2).bind fun bt549=>(some (bt549.1,bt549.2.1,bt549.2.2)))))))
theorem rfBlock.mono:∀ a0 a1 a2 k,LeO (rfBlock.f k a0 a1 a2) (rfBlock.f (k+1) a0 a1 a2):=by
  intro a0 a1 a2 k
  unfold rfBlock.f
  repeat' first | (with_reducible exact rfFuse.mono _ _ _ _) | (with_reducible exact rfTables.mono _ _ _ _) | (with_reducible exact rfThread.mono _ _ _ _) | (with_reducible exact rfTrim.mono _ _ _ _) | (with_reducible exact LeO.refl _) | (with_reducible refine LeO.ite ?_ ?_) | (with_reducible refine LeO.bind ?_ (fun _=>?_))
set_option maxHeartbeats 8000000 in
set_option maxRecDepth 100000 in
theorem rfBlock.calls (k:Nat) (aC:Option Addr) (aF:Nat) (ag:List (S35)) (aD:Option Addr) (aG:Nat) (ah:List (S35)) (aE:Option Addr) (aH:Nat) (ai:List (S37)) (r1:List (S35)) (r2:List (S35)) (r3:List (S37)) (w:World) (bv:Kd.C k35 w aC ag.length ag) (bs:ag.length≤aF) (bw:Kd.C k35 w aD ah.length ah) (bt:ah.length≤aG) (bx:Kd.C k37 w aE ai.length ai) (bu:ai.length≤aH) (h:rfBlock.f k ag ah ai=some (r1,r2,r3)) :
    Calls Try.prog 20 #[.agg #[.slice aC ag.length aF,.slice aD ah.length aG,.slice aE ai.length aH]] w fun e w'=>∃ dj dk dq:Value,e=.returned (.agg #[dj,dk,dq])∧Kd.R k35 35 w' w.heap.size (fun k_=>some k_≠(dk:Value).ownBlock) dj r1∧Kd.R k35 35 w' w.heap.size (fun k_=>some k_≠(dj:Value).ownBlock) dk r2∧Kd.R k37 37 w' w.heap.size (fun _=>True) dq r3∧Below w.heap.size w w':=by
 have dx:=Try.underlying30
 have aN:=Aside0.mk bv
 have aK:=Aside0.mk bs
 clear bv bs
 have aO:=Aside0.mk bw
 have aL:=Aside0.mk bt
 clear bw bt
 have aP:=Aside0.mk bx
 have aM:=Aside0.mk bu
 clear bx bu
 have HB:=Aside0.mk (Below.refl w.heap.size w)
 have H:((rfisEnum.f ag ah ai).bind fun bz=>(if bz=true then ((rfcopied.f ag ah ai).bind fun aZ=>(some (aZ.1,aZ.2.1,aZ.2.2))) else ((rfTables.f k ag ah ai).bind fun ba=>((rfFuse.f k ba.1 ba.2.1 ba.2.2).bind fun bb=>((rfThread.f k bb.1 bb.2.1 bb.2.2).bind fun bc=>((rfTrim.f k bc.1 bc.2.1 bc.2.2).bind fun bd=>(some (bd.1,bd.2.1,bd.2.2))))))))=some (r1,r2,r3):=h
 clear h
 replace H:=Option.bind_eq_some_iff.mp H
 obtain ⟨bz,dl,H⟩:=H
 try dsimp only at H
 have A2:=Aside0.mk dl
 clear dl
 by_cases c3:bz=true
 ·subst c3
  replace H:=iP H
  replace H:=Option.bind_eq_some_iff.mp H
  obtain ⟨⟨aI,aU,bg⟩,dm,H⟩:=H
  try dsimp only at H
  have A4:=Aside0.mk dm
  clear dm
  simp only [Option.some.injEq,Prod.mk.injEq] at H
  obtain ⟨rfl,rfl,rfl⟩:=H
  go_enter Try.func20,Try.ntmps20
  go_wp2_with (first | ((with_reducible refine gate_dst (N:=1) rfl ?_);refine box_event ?hg (N:=1) ?hd (cs:=#[.slice aC ag.length aF,.slice aD ah.length aG,.slice aE ai.length aH]) (t:=30) ?hr ?_;(case hd=>rfl);(case hg=>rfl);(case hr=>(go_simp;done));intro bQ hg w5 hbox hb;have aa:=Aside0.mk hbox;have bO:=qz HB hg;have bN:=qz HB hg;replace HB:=qs HB hb;clear hb hbox hg)|((with_reducible refine gate_dst (N:=2) rfl ?_);refine box_event ?hg (N:=2) ?hd (cs:=#[.slice none 0 0,.slice none 0 0,.slice none 0 0]) (t:=30) ?hr ?_;(case hd=>rfl);(case hg=>rfl);(case hr=>(go_simp;done));intro ac hg w6 hbox hb;have ab:=Aside0.mk hbox;have bP:=qz HB hg;have aY:=qz HB hg;replace HB:=qs HB hb;have au:=qn aa hg;have av:=qN aa hg;replace aa:=qb aa hb;clear hb hbox hg;have dv:=au.out;have dw:=av.out;refine qc3 aa fun dd de df dg dh di=>?_)|((with_reducible refine gate_callee (f:=39) rfl ?_);refine goesL_ (some 4) rfl rfl Try.func39 (by kernel_rfl) rfl #[.agg #[.slice aC ag.length aF,.slice aD ah.length aG,.slice aE ai.length aH]] rfl (by (try simp only [List.map_toArray,List.map_cons,List.map_nil]);(rfl)) ?_;(with_reducible refine (rfisEnum.calls _ _ ag _ _ ah _ _ ai true _ ?am ?an ?ao ?ap ?aq ?ar A2.out).mono ?_);(case am=>exact (Kd.C_below aN.out HB.out));(case an=>exact aK.out);(case ao=>exact (Kd.C_below aO.out HB.out));(case ap=>exact aL.out);(case aq=>exact (Kd.C_below aP.out HB.out));(case ar=>exact aM.out);rintro e w9 ⟨rfl,hb⟩;refine ⟨_,rfl,?_⟩;replace aa:=qb aa hb;replace ab:=qb ab hb;replace HB:=qs HB hb;(try clear hb);refine qc3 aa fun bR bS bT cg ch ci=>?_)|((with_reducible refine gate_callee (f:=37) rfl ?_);refine goesL_ (some 6) rfl rfl Try.func37 (by kernel_rfl) rfl #[.agg #[.slice aC ag.length aF,.slice aD ah.length aG,.slice aE ai.length aH]] rfl (by (try simp only [List.map_toArray,List.map_cons,List.map_nil]);(rfl)) ?_;(with_reducible refine (rfcopied.calls _ _ ag _ _ ah _ _ ai aI aU bg _ ?am ?an ?ao ?ap ?aq ?ar A4.out).mono ?_);(case am=>exact (Kd.C_below aN.out HB.out));(case an=>exact aK.out);(case ao=>exact (Kd.C_below aO.out HB.out));(case ap=>exact aL.out);(case aq=>exact (Kd.C_below aP.out HB.out));(case ar=>exact aM.out);rintro e dN ⟨dy,dz,dA,rfl,aw,ax,aB,hb⟩;refine ⟨_,rfl,?_⟩;have bm:=ql aw HB;have bn:=ql ax HB;have bo:=ql aB HB;replace aa:=qb aa hb;replace ab:=qb ab hb;replace HB:=qs HB hb;(try clear hb);(try clear aw);(try clear ax);(try clear aB);obtain ⟨aQ,aS,cO⟩:=Kd.R_slice bm.out;subst cO;refine qc3 ab fun bU bV bW cj ck cl=>?_;obtain ⟨aW,be,cP⟩:=Kd.R_slice bn.out;subst cP;obtain ⟨bi,bk,cQ⟩:=Kd.R_slice bo.out;subst cQ))
  refine bodyPost_ret (results_cell_row rfl _ _ ac 30 #[.slice aQ aI.length aS,.slice aW aU.length be,.slice bi bg.length bk] (0,0) _ rfl (by refine blk_put (cs:=#[.slice aQ aI.length aS,.slice aW aU.length be,.slice none 0 0]) ?_ 2 _ rfl;refine blk_put (cs:=#[.slice aQ aI.length aS,.slice none 0 0,.slice none 0 0]) ?_ 1 _ rfl;refine blk_put (cs:=#[.slice none 0 0,.slice none 0 0,.slice none 0 0]) ?_ 0 _ rfl;exact ab.out) Try.underlying30 rfl (by kernel_rfl)) rfl ?_
  exact ⟨_,_,_,by (rfl),by exact Kd.R_mono (Kd.R_far (p:=⟨ac,2,none⟩) (Kd.R_far (p:=⟨ac,1,none⟩) (Kd.R_far (p:=⟨ac,0,none⟩) (Kd.R_types bm.out ab.out (by decide)) (fun _ hk=>hk.2) (.slice aQ aI.length aS)) (fun _ hk=>hk.2) (.slice aW aU.length be)) (fun _ hk=>hk.2) (.slice bi bg.length bk)) (fun _ hk=>hk.1),by exact Kd.R_mono (Kd.R_far (p:=⟨ac,2,none⟩) (Kd.R_far (p:=⟨ac,1,none⟩) (Kd.R_far (p:=⟨ac,0,none⟩) (Kd.R_types bn.out ab.out (by decide)) (fun _ hk=>hk.2) (.slice aQ aI.length aS)) (fun _ hk=>hk.2) (.slice aW aU.length be)) (fun _ hk=>hk.2) (.slice bi bg.length bk)) (fun _ hk=>hk.1),by exact Kd.R_mono (Kd.R_far (p:=⟨ac,2,none⟩) (Kd.R_far (p:=⟨ac,1,none⟩) (Kd.R_far (p:=⟨ac,0,none⟩) (Kd.R_types bo.out ab.out (by decide)) (fun _ hk=>hk.2) (.slice aQ aI.length aS)) (fun _ hk=>hk.2) (.slice aW aU.length be)) (fun _ hk=>hk.2) (.slice bi bg.length bk)) (fun _ hk=>trivial),by repeat ((with_reducible first | exact HB.out | refine b_st ?_ aY.out))⟩
 replace c3:=Bool.eq_false_iff.mpr c3
 subst c3
 replace H:=iF H
 replace H:=Option.bind_eq_some_iff.mp H
 obtain ⟨⟨bA,bB,bC⟩,bJ,H⟩:=H
 try dsimp only at H
 have dr:=Aside0.mk bJ
 clear bJ
 replace H:=Option.bind_eq_some_iff.mp H
 obtain ⟨⟨bD,bE,bF⟩,bK,H⟩:=H
 try dsimp only at H
 have ds:=Aside0.mk bK
 clear bK
 replace H:=Option.bind_eq_some_iff.mp H
 obtain ⟨⟨bG,bH,bI⟩,bL,H⟩:=H
 try dsimp only at H
 have dt:=Aside0.mk bL
 clear bL
 replace H:=Option.bind_eq_some_iff.mp H
 obtain ⟨⟨aJ,aV,bh⟩,bM,H⟩:=H
 try dsimp only at H
 have du:=Aside0.mk bM
 clear bM
 simp only [Option.some.injEq,Prod.mk.injEq] at H
 obtain ⟨rfl,rfl,rfl⟩:=H
 go_enter Try.func20,Try.ntmps20
 go_wp2_with (first | ((with_reducible refine gate_dst (N:=1) rfl ?_);refine box_event ?hg (N:=1) ?hd (cs:=#[.slice aC ag.length aF,.slice aD ah.length aG,.slice aE ai.length aH]) (t:=30) ?hr ?_;(case hd=>rfl);(case hg=>rfl);(case hr=>(go_simp;done));intro bQ hg dO hbox hb;have aa:=Aside0.mk hbox;have bO:=qz HB hg;have bN:=qz HB hg;replace HB:=qs HB hb;clear hb hbox hg)|((with_reducible refine gate_dst (N:=2) rfl ?_);refine box_event ?hg (N:=2) ?hd (cs:=#[.slice none 0 0,.slice none 0 0,.slice none 0 0]) (t:=30) ?hr ?_;(case hd=>rfl);(case hg=>rfl);(case hr=>(go_simp;done));intro ac hg dP hbox hb;have ab:=Aside0.mk hbox;have bP:=qz HB hg;have aY:=qz HB hg;replace HB:=qs HB hb;have au:=qn aa hg;have av:=qN aa hg;replace aa:=qb aa hb;clear hb hbox hg;have dn:=au.out;have dp:=av.out;refine qc3 aa fun bX bY bZ cm cn co=>?_)|((with_reducible refine gate_callee (f:=39) rfl ?_);refine goesL_ (some 4) rfl rfl Try.func39 (by kernel_rfl) rfl #[.agg #[.slice aC ag.length aF,.slice aD ah.length aG,.slice aE ai.length aH]] rfl (by (try simp only [List.map_toArray,List.map_cons,List.map_nil]);(rfl)) ?_;(with_reducible refine (rfisEnum.calls _ _ ag _ _ ah _ _ ai false _ ?am ?an ?ao ?ap ?aq ?ar A2.out).mono ?_);(case am=>exact (Kd.C_below aN.out HB.out));(case an=>exact aK.out);(case ao=>exact (Kd.C_below aO.out HB.out));(case ap=>exact aL.out);(case aq=>exact (Kd.C_below aP.out HB.out));(case ar=>exact aM.out);rintro e dQ ⟨rfl,hb⟩;refine ⟨_,rfl,?_⟩;replace aa:=qb aa hb;replace ab:=qb ab hb;replace HB:=qs HB hb;(try clear hb);refine qc3 aa fun ca cb cc cp cq cr=>?_)|((with_reducible refine gate_callee (f:=12) rfl ?_);refine goesL_ (some 8) rfl rfl Try.func12 (by kernel_rfl) rfl #[.agg #[.slice aC ag.length aF,.slice aD ah.length aG,.slice aE ai.length aH]] rfl (by (try simp only [List.map_toArray,List.map_cons,List.map_nil]);(rfl)) ?_;(with_reducible refine (rfTables.calls k _ _ ag _ _ ah _ _ ai bA bB bC _ ?am ?an ?ao ?ap ?aq ?ar dr.out).mono ?_);(case am=>exact (Kd.C_below aN.out HB.out));(case an=>exact aK.out);(case ao=>exact (Kd.C_below aO.out HB.out));(case ap=>exact aL.out);(case aq=>exact (Kd.C_below aP.out HB.out));(case ar=>exact aM.out);rintro e dR ⟨dB,dC,dD,rfl,aw,ax,aB,hb⟩;refine ⟨_,rfl,?_⟩;have ad:=ql aw HB;have ae:=ql ax HB;have af:=ql aB HB;replace aa:=qb aa hb;replace ab:=qb ab hb;replace HB:=qs HB hb;(try clear hb);(try clear aw);(try clear ax);(try clear aB);obtain ⟨cw,cF,cR⟩:=Kd.R_slice ad.out;subst cR;obtain ⟨cx,cG,cS⟩:=Kd.R_slice ae.out;subst cS;obtain ⟨cy,cH,cT⟩:=Kd.R_slice af.out;subst cT)|((with_reducible refine gate_callee (f:=14) rfl ?_);refine goesL_ (some 9) rfl rfl Try.func14 (by kernel_rfl) rfl #[.agg #[.slice cw bA.length cF,.slice cx bB.length cG,.slice cy bC.length cH]] rfl (by (try simp only [List.map_toArray,List.map_cons,List.map_nil]);(rfl)) ?_;(with_reducible refine (rfFuse.calls k _ _ bA _ _ bB _ _ bC bD bE bF _ ?am ?an ?ao ?ap ?aq ?ar ds.out).mono ?_);(case am=>exact (Kd.R_reads' ad.out).2.2);(case an=>exact (Kd.R_reads' ad.out).2.1);(case ao=>exact (Kd.R_reads' ae.out).2.2);(case ap=>exact (Kd.R_reads' ae.out).2.1);(case aq=>exact (Kd.R_reads' af.out).2.2);(case ar=>exact (Kd.R_reads' af.out).2.1);rintro e dS ⟨dE,dF,dG,rfl,aw,ax,aB,hb⟩;refine ⟨_,rfl,?_⟩;have aj:=ql (qw (qw aw ad) ae) HB;have ak:=ql (qw (qw ax ad) ae) HB;replace ad:=qt ad hb aw ax;replace ae:=qt ae hb aw ax;have al:=ql (qw aB af) HB;replace af:=qe af aB hb;replace aa:=qb aa hb;replace ab:=qb ab hb;replace HB:=qs HB hb;(try clear hb);(try clear aw);(try clear ax);(try clear aB);obtain ⟨cz,cI,cU⟩:=Kd.R_slice aj.out;subst cU;obtain ⟨cA,cJ,cV⟩:=Kd.R_slice ak.out;subst cV;obtain ⟨cB,cK,cW⟩:=Kd.R_slice al.out;subst cW)|((with_reducible refine gate_callee (f:=16) rfl ?_);refine goesL_ (some 10) rfl rfl Try.func16 (by kernel_rfl) rfl #[.agg #[.slice cz bD.length cI,.slice cA bE.length cJ,.slice cB bF.length cK]] rfl (by (try simp only [List.map_toArray,List.map_cons,List.map_nil]);(rfl)) ?_;(with_reducible refine (rfThread.calls k _ _ bD _ _ bE _ _ bF bG bH bI _ ?am ?an ?ao ?ap ?aq ?ar dt.out).mono ?_);(case am=>exact (Kd.R_reads' aj.out).2.2);(case an=>exact (Kd.R_reads' aj.out).2.1);(case ao=>exact (Kd.R_reads' ak.out).2.2);(case ap=>exact (Kd.R_reads' ak.out).2.1);(case aq=>exact (Kd.R_reads' al.out).2.2);(case ar=>exact (Kd.R_reads' al.out).2.1);rintro e dT ⟨dH,dI,dJ,rfl,aw,ax,aB,hb⟩;refine ⟨_,rfl,?_⟩;have ay:=ql (qw (qw (qw (qw aw ad) ae) aj) ak) HB;have az:=ql (qw (qw (qw (qw ax ad) ae) aj) ak) HB;replace ad:=qt ad hb aw ax;replace ae:=qt ae hb aw ax;replace aj:=qt aj hb aw ax;replace ak:=qt ak hb aw ax;have aA:=ql (qw (qw aB af) al) HB;replace af:=qe af aB hb;replace al:=qe al aB hb;replace aa:=qb aa hb;replace ab:=qb ab hb;replace HB:=qs HB hb;(try clear hb);(try clear aw);(try clear ax);(try clear aB);obtain ⟨cC,cL,cX⟩:=Kd.R_slice ay.out;subst cX;obtain ⟨cD,cM,cY⟩:=Kd.R_slice az.out;subst cY;obtain ⟨cE,cN,cZ⟩:=Kd.R_slice aA.out;subst cZ)|((with_reducible refine gate_callee (f:=18) rfl ?_);refine goesL_ (some 11) rfl rfl Try.func18 (by kernel_rfl) rfl #[.agg #[.slice cC bG.length cL,.slice cD bH.length cM,.slice cE bI.length cN]] rfl (by (try simp only [List.map_toArray,List.map_cons,List.map_nil]);(rfl)) ?_;(with_reducible refine (rfTrim.calls k _ _ bG _ _ bH _ _ bI aJ aV bh _ ?am ?an ?ao ?ap ?aq ?ar du.out).mono ?_);(case am=>exact (Kd.R_reads' ay.out).2.2);(case an=>exact (Kd.R_reads' ay.out).2.1);(case ao=>exact (Kd.R_reads' az.out).2.2);(case ap=>exact (Kd.R_reads' az.out).2.1);(case aq=>exact (Kd.R_reads' aA.out).2.2);(case ar=>exact (Kd.R_reads' aA.out).2.1);rintro e dU ⟨dK,dL,dM,rfl,aw,ax,aB,hb⟩;refine ⟨_,rfl,?_⟩;have bp:=ql (qw (qw (qw (qw (qw (qw aw ad) ae) aj) ak) ay) az) HB;have bq:=ql (qw (qw (qw (qw (qw (qw ax ad) ae) aj) ak) ay) az) HB;replace ad:=qt ad hb aw ax;replace ae:=qt ae hb aw ax;replace aj:=qt aj hb aw ax;replace ak:=qt ak hb aw ax;replace ay:=qt ay hb aw ax;replace az:=qt az hb aw ax;have br:=ql (qw (qw (qw aB af) al) aA) HB;replace af:=qe af aB hb;replace al:=qe al aB hb;replace aA:=qe aA aB hb;replace aa:=qb aa hb;replace ab:=qb ab hb;replace HB:=qs HB hb;(try clear hb);(try clear aw);(try clear ax);(try clear aB);obtain ⟨aR,aT,da⟩:=Kd.R_slice bp.out;subst da;refine qc3 ab fun cd ce cf ct cu cv=>?_;obtain ⟨aX,bf,db⟩:=Kd.R_slice bq.out;subst db;obtain ⟨bj,bl,dc⟩:=Kd.R_slice br.out;subst dc))
 refine bodyPost_ret (results_cell_row rfl _ _ ac 30 #[.slice aR aJ.length aT,.slice aX aV.length bf,.slice bj bh.length bl] (0,0) _ rfl (by refine blk_put (cs:=#[.slice aR aJ.length aT,.slice aX aV.length bf,.slice none 0 0]) ?_ 2 _ rfl;refine blk_put (cs:=#[.slice aR aJ.length aT,.slice none 0 0,.slice none 0 0]) ?_ 1 _ rfl;refine blk_put (cs:=#[.slice none 0 0,.slice none 0 0,.slice none 0 0]) ?_ 0 _ rfl;exact ab.out) Try.underlying30 rfl (by kernel_rfl)) rfl ?_
 exact ⟨_,_,_,by (rfl),by exact Kd.R_mono (Kd.R_far (p:=⟨ac,2,none⟩) (Kd.R_far (p:=⟨ac,1,none⟩) (Kd.R_far (p:=⟨ac,0,none⟩) (Kd.R_types bp.out ab.out (by decide)) (fun _ hk=>hk.2) (.slice aR aJ.length aT)) (fun _ hk=>hk.2) (.slice aX aV.length bf)) (fun _ hk=>hk.2) (.slice bj bh.length bl)) (fun _ hk=>hk.1.1.1.1.1.1.1),by exact Kd.R_mono (Kd.R_far (p:=⟨ac,2,none⟩) (Kd.R_far (p:=⟨ac,1,none⟩) (Kd.R_far (p:=⟨ac,0,none⟩) (Kd.R_types bq.out ab.out (by decide)) (fun _ hk=>hk.2) (.slice aR aJ.length aT)) (fun _ hk=>hk.2) (.slice aX aV.length bf)) (fun _ hk=>hk.2) (.slice bj bh.length bl)) (fun _ hk=>hk.1.1.1.1.1.1.1),by exact Kd.R_mono (Kd.R_far (p:=⟨ac,2,none⟩) (Kd.R_far (p:=⟨ac,1,none⟩) (Kd.R_far (p:=⟨ac,0,none⟩) (Kd.R_types br.out ab.out (by decide)) (fun _ hk=>hk.2) (.slice aR aJ.length aT)) (fun _ hk=>hk.2) (.slice aX aV.length bf)) (fun _ hk=>hk.2) (.slice bj bh.length bl)) (fun _ hk=>trivial),by repeat ((with_reducible first | exact HB.out | refine b_st ?_ aY.out))⟩
end Go.Proofs.Ytedghbjmhcgilaa.POpt
end
section
namespace Go.Proofs.Ytedghbjmhcgilaa.N
open Go.RowKit Go.Proofs.YtedghbjmhcgilaaW.PrintWords Go.Proofs.YtedghbjmhcgilaaW.PrintLast Go.Proofs.YtedghbjmhcgilaaW.PrintMore
open Go.Proofs.Ytedghbjmhcgilaa.POpt
def ar (op:Int):Int:=if op=2∨op=14∨op=15∨op=21∨op=25 then 2 else if op=3∨op=4∨op=5∨op=6∨op=7∨op=8∨op=9∨op=17∨op=18∨op=19 then 1 else if op=10∨op=11∨op=16∨op=20 then 3 else if op=12∨op=22 then 4 else 0
theorem ar_f (op:Int):rgArity.f 4 op=some (ar op):=by
 have key:∀ v:Int,op=v→rgArity.f 4 v=some (ar v)→rgArity.f 4 op=some (ar op):=fun v e h=>by rw [e];exact h
 by_cases e:op=2;exact key 2 e rfl
 by_cases e:op=14;exact key 14 e rfl
 by_cases e:op=15;exact key 15 e rfl
 by_cases e:op=21;exact key 21 e rfl
 by_cases e:op=25;exact key 25 e rfl
 by_cases e:op=3;exact key 3 e rfl
 by_cases e:op=4;exact key 4 e rfl
 by_cases e:op=5;exact key 5 e rfl
 by_cases e:op=6;exact key 6 e rfl
 by_cases e:op=7;exact key 7 e rfl
 by_cases e:op=8;exact key 8 e rfl
 by_cases e:op=9;exact key 9 e rfl
 by_cases e:op=17;exact key 17 e rfl
 by_cases e:op=18;exact key 18 e rfl
 by_cases e:op=19;exact key 19 e rfl
 by_cases e:op=10;exact key 10 e rfl
 by_cases e:op=11;exact key 11 e rfl
 by_cases e:op=16;exact key 16 e rfl
 by_cases e:op=20;exact key 20 e rfl
 by_cases e:op=12;exact key 12 e rfl
 by_cases e:op=22;exact key 22 e rfl
 unfold ar rgArity.f
 simp only [*,false_or,if_false,or_self]
 simp only [rgArity.j0,rgArity.j1,rgArity.j2, *,if_false,beq_iff_eq]
theorem arity_calls (op n:Int) (hn:ar op=n) (w:World):Calls Try.prog 71 #[.int .i64 op] w fun e w'=>e=.returned (.int .i64 n)∧Drawn0 w w':=by
 subst hn
 exact rgArity.calls 4 op (ar op) w (ar_f op)
def isFieldB (a:Int):Bool:=decide (a ≥ 1) && decide (a≤536870911)
theorem isFieldB_f (a:Int):rgisField.f a=some (isFieldB a):=by
 unfold rgisField.f isFieldB;by_cases h:a ≥ 1 <;> simp [h]
def isScalarB (a:Int):Bool:=decide (a ≥ 1) && decide (a≤16)
theorem isScalarB_f (a:Int):rgisScalar.f a=some (isScalarB a):=by
 unfold rgisScalar.f isScalarB;by_cases h:a ≥ 1 <;> simp [h]
def isKindB (a:Int):Bool:=decide (a ≥ 1) && decide (a≤17)
theorem isKindB_f (a:Int):rgisKind.f a=some (isKindB a):=by
 unfold rgisKind.f isKindB;by_cases h:a ≥ 1 <;> simp [h]
def isKeyB (a:Int):Bool:=(rcIsKey.f a).getD false
theorem isKeyB_f (a:Int):rcIsKey.f a=some (isKeyB a):=by
 unfold isKeyB rcIsKey.f;repeat' split
 all_goals rfl
def isTagB (a:Int):Bool:=(rgisTag.f a).getD false
theorem isTagB_f (a:Int):rgisTag.f a=some (isTagB a):=by
 unfold isTagB rgisTag.f
 rw [isFieldB_f]
 simp only [Option.bind_some]
 repeat' split
 all_goals rfl
def isEnumB (bs:List S30) (a:Int):Bool:=(rgisEnum.f bs a).getD false
theorem isEnumB_f (bs:List S30) (a:Int):rgisEnum.f bs a=some (isEnumB bs a):=by
 unfold isEnumB rgisEnum.f
 by_cases h0:a ≥ 0
 ·rw [if_pos h0];by_cases h1:a < (bs.length:Int)
  ·rw [if_pos h1,if_pos (by omega)];split <;> rfl
  ·rw [if_neg h1];rfl
 ·rw [if_neg h0];rfl
def isMessageB (bs:List S30) (a:Int):Bool:=(rgisMessage.f bs a).getD false
theorem isMessageB_f (bs:List S30) (a:Int):rgisMessage.f bs a=some (isMessageB bs a):=by
 unfold isMessageB rgisMessage.f
 by_cases h0:a ≥ 0
 ·rw [if_pos h0];by_cases h1:a < (bs.length:Int)
  ·rw [if_pos h1,if_pos (by omega)];split <;> rfl
  ·rw [if_neg h1];rfl
 ·rw [if_neg h0];rfl
def blockB (bs:List S30) (k b:Int):Bool:=(rgblock.f bs k b).getD false
theorem blockB_f (bs:List S30) (k b:Int):rgblock.f bs k b=some (blockB bs k b):=by
 unfold blockB rgblock.f
 rw [isEnumB_f,isMessageB_f]
 repeat' split
 all_goals rfl
theorem wire_some (a:Int):∃ r,rcWire.f 9 a=some r:=by
 have j2:∀ x b,∃ r,rcWire.j2 7 x b=some r:=fun x b=>by
  show ∃ r,rcWire.j2 (6+1) x b=some r
  rw [rcWire.j2];repeat' split
  all_goals exact ⟨_,rfl⟩
 have j1:∀ x b,∃ r,rcWire.j1 8 x b=some r:=fun x b=>by
  show ∃ r,rcWire.j1 (7+1) x b=some r
  rw [rcWire.j1];repeat' split
  all_goals first | exact ⟨_,rfl⟩ | exact j2 _ _
 have j0:∀ x b,∃ r,rcWire.j0 9 x b=some r:=fun x b=>by
  show ∃ r,rcWire.j0 (8+1) x b=some r
  rw [rcWire.j0];repeat' split
  all_goals first | exact ⟨_,rfl⟩ | exact j1 _ _
 unfold rcWire.f
 repeat' split
 all_goals exact j0 _ _
def numericB (a:Int):Bool:=(rcNumeric.f 9 a).getD false
theorem numericB_f (a:Int):rcNumeric.f 9 a=some (numericB a):=by
 unfold numericB rcNumeric.f
 obtain ⟨r,hr⟩:=wire_some a
 rw [hr]
 simp only [Option.bind_some]
 split <;> rfl
theorem isField_calls (a:Int) (w:World) (r:Bool) (h:isFieldB a=r):Calls Try.prog 74 #[.int .i64 a] w fun e w'=>e=.returned (.bool r)∧Drawn0 w w':=rgisField.calls a r w (by rw [isFieldB_f,h])
theorem isTag_calls (a:Int) (w:World) (r:Bool) (h:isTagB a=r):Calls Try.prog 53 #[.int .i64 a] w fun e w'=>e=.returned (.bool r)∧Drawn0 w w':=rgisTag.calls a r w (by rw [isTagB_f,h])
theorem isScalar_calls (a:Int) (w:World) (r:Bool) (h:isScalarB a=r):Calls Try.prog 72 #[.int .i64 a] w fun e w'=>e=.returned (.bool r)∧Drawn0 w w':=rgisScalar.calls a r w (by rw [isScalarB_f,h])
theorem isKind_calls (a:Int) (w:World) (r:Bool) (h:isKindB a=r):Calls Try.prog 77 #[.int .i64 a] w fun e w'=>e=.returned (.bool r)∧Drawn0 w w':=rgisKind.calls a r w (by rw [isKindB_f,h])
theorem isKey_calls (a:Int) (w:World) (r:Bool) (h:isKeyB a=r):Calls Try.prog 76 #[.int .i64 a] w fun e w'=>e=.returned (.bool r)∧Drawn0 w w':=rcIsKey.calls a r w (by rw [isKeyB_f,h])
theorem numeric_calls (a:Int) (w:World) (r:Bool) (h:numericB a=r):Calls Try.prog 75 #[.int .i64 a] w fun e w'=>e=.returned (.bool r)∧Drawn0 w w':=rcNumeric.calls 9 a r w (by rw [numericB_f,h])
theorem isEnum_calls (bs:List S30) (a:Int) (A:Option Addr) (c0:Nat) (w:World) (hr:Kd.C k30 w A bs.length bs) (hc:bs.length≤c0) (r:Bool) (h:isEnumB bs a=r):Calls Try.prog 73 #[.agg #[.slice A bs.length c0],.int .i64 a] w fun e w'=>e=.returned (.bool r)∧Below w.heap.size w w':=rgisEnum.calls A c0 bs a r w hr hc (by rw [isEnumB_f,h])
theorem isMessage_calls (bs:List S30) (a:Int) (A:Option Addr) (c0:Nat) (w:World) (hr:Kd.C k30 w A bs.length bs) (hc:bs.length≤c0) (r:Bool) (h:isMessageB bs a=r):Calls Try.prog 30 #[.agg #[.slice A bs.length c0],.int .i64 a] w fun e w'=>e=.returned (.bool r)∧Below w.heap.size w w':=rgisMessage.calls A c0 bs a r w hr hc (by rw [isMessageB_f,h])
theorem block_calls (bs:List S30) (k a:Int) (A:Option Addr) (c0:Nat) (w:World) (hr:Kd.C k30 w A bs.length bs) (hc:bs.length≤c0) (r:Bool) (h:blockB bs k a=r):Calls Try.prog 78 #[.agg #[.slice A bs.length c0],.int .i64 k,.int .i64 a] w fun e w'=>e=.returned (.bool r)∧Below w.heap.size w w':=rgblock.calls A c0 bs k a r w hr hc (by rw [blockB_f,h])
set_option maxRecDepth 100000 in
set_option maxHeartbeats 2000000 in
theorem num2 (bs:List S30) (A:Option Addr) (c0:Nat) (a b:Int) (w:World) (hr:Kd.C k30 w A bs.length bs) (hc0:bs.length≤c0) :
  Calls Try.prog 52 #[.agg #[.slice A bs.length c0],.agg #[.int .i64 2,.int .i64 a,.int .i64 b,.int .i64 0,.int .i64 0]] w fun e w'=>e=.returned (.bool (isTagB a))∧Below w.heap.size w w':=by
 have HR:=Lib.hid hr
 have HA:=Lib.hid (((Below.refl w.heap.size w).alloc (Nat.le_refl _) (.cells #[.slice A bs.length c0] 24)).alloc (by simp) (.cells #[.int .i64 2,.int .i64 a,.int .i64 b,.int .i64 0,.int .i64 0] 35))
 clear hr
 go_enter Try.func52,Try.ntmps52
 go_wp2_with (first | (go_at_call 71;refine (arity_calls _ 2 rfl _).mono ?_;rintro e w1 ⟨rfl,⟨⟨q,rfl⟩⟩⟩) | (go_at_call 53;refine (isTag_calls a _ _ rfl).mono ?_;rintro e w1 ⟨rfl,⟨⟨q,rfl⟩⟩⟩))
 go_ret
 exact ⟨by first | rfl | (simp;done) | (simp;omega),(by repeat (first | exact HA.out | refine pwbd ?_ _))⟩
set_option maxRecDepth 100000 in
set_option maxHeartbeats 2000000 in
theorem num5 (bs:List S30) (A:Option Addr) (c0:Nat) (a:Int) (w:World) (hr:Kd.C k30 w A bs.length bs) (hc0:bs.length≤c0) :
  Calls Try.prog 52 #[.agg #[.slice A bs.length c0],.agg #[.int .i64 5,.int .i64 a,.int .i64 0,.int .i64 0,.int .i64 0]] w fun e w'=>e=.returned (.bool (isScalarB a))∧Below w.heap.size w w':=by
 have HR:=Lib.hid hr
 have HA:=Lib.hid (((Below.refl w.heap.size w).alloc (Nat.le_refl _) (.cells #[.slice A bs.length c0] 24)).alloc (by simp) (.cells #[.int .i64 5,.int .i64 a,.int .i64 0,.int .i64 0,.int .i64 0] 35))
 clear hr
 go_enter Try.func52,Try.ntmps52
 go_wp2_with (first | (go_at_call 71;refine (arity_calls _ 1 rfl _).mono ?_;rintro e w1 ⟨rfl,⟨⟨q,rfl⟩⟩⟩) | (go_at_call 72;refine (isScalar_calls a _ _ rfl).mono ?_;rintro e w1 ⟨rfl,⟨⟨q,rfl⟩⟩⟩))
 go_ret
 exact ⟨by first | rfl | (simp;done) | (simp;omega),(by repeat (first | exact HA.out | refine pwbd ?_ _))⟩
set_option maxRecDepth 100000 in
set_option maxHeartbeats 2000000 in
theorem num18 (bs:List S30) (A:Option Addr) (c0:Nat) (a:Int) (w:World) (hr:Kd.C k30 w A bs.length bs) (hc0:bs.length≤c0) :
  Calls Try.prog 52 #[.agg #[.slice A bs.length c0],.agg #[.int .i64 18,.int .i64 a,.int .i64 0,.int .i64 0,.int .i64 0]] w fun e w'=>e=.returned (.bool (isScalarB a))∧Below w.heap.size w w':=by
 have HR:=Lib.hid hr
 have HA:=Lib.hid (((Below.refl w.heap.size w).alloc (Nat.le_refl _) (.cells #[.slice A bs.length c0] 24)).alloc (by simp) (.cells #[.int .i64 18,.int .i64 a,.int .i64 0,.int .i64 0,.int .i64 0] 35))
 clear hr
 go_enter Try.func52,Try.ntmps52
 go_wp2_with (first | (go_at_call 71;refine (arity_calls _ 1 rfl _).mono ?_;rintro e w1 ⟨rfl,⟨⟨q,rfl⟩⟩⟩) | (go_at_call 72;refine (isScalar_calls a _ _ rfl).mono ?_;rintro e w1 ⟨rfl,⟨⟨q,rfl⟩⟩⟩))
 go_ret
 exact ⟨by first | rfl | (simp;done) | (simp;omega),(by repeat (first | exact HA.out | refine pwbd ?_ _))⟩
set_option maxRecDepth 100000 in
set_option maxHeartbeats 2000000 in
theorem num6 (bs:List S30) (A:Option Addr) (c0:Nat) (a:Int) (w:World) (hr:Kd.C k30 w A bs.length bs) (hc0:bs.length≤c0) :
  Calls Try.prog 52 #[.agg #[.slice A bs.length c0],.agg #[.int .i64 6,.int .i64 a,.int .i64 0,.int .i64 0,.int .i64 0]] w fun e w'=>e=.returned (.bool (isEnumB bs a))∧Below w.heap.size w w':=by
 have HR:=Lib.hid hr
 have HA:=Lib.hid (((Below.refl w.heap.size w).alloc (Nat.le_refl _) (.cells #[.slice A bs.length c0] 24)).alloc (by simp) (.cells #[.int .i64 6,.int .i64 a,.int .i64 0,.int .i64 0,.int .i64 0] 35))
 clear hr
 go_enter Try.func52,Try.ntmps52
 go_wp2_with (first | (go_at_call 71;refine (arity_calls _ 1 rfl _).mono ?_;rintro e w1 ⟨rfl,⟨⟨q,rfl⟩⟩⟩) | (go_at_call 73;refine (isEnum_calls bs a A c0 _ (Kd.C_below HR.out (by repeat (first | exact HA.out | refine pwbd ?_ _))) hc0 _ rfl).mono ?_;rintro e w1 ⟨rfl,hb⟩;have HB:=Lib.hid hb;clear hb))
 go_ret
 exact ⟨by first | rfl | (simp;done) | (simp;omega),((by repeat (first | exact HA.out | refine pwbd ?_ _)):Below w.heap.size w _).trans (HB.out.mono (by simp;omega))⟩
set_option maxRecDepth 100000 in
set_option maxHeartbeats 2000000 in
theorem num7 (bs:List S30) (A:Option Addr) (c0:Nat) (a:Int) (w:World) (hr:Kd.C k30 w A bs.length bs) (hc0:bs.length≤c0) :
  Calls Try.prog 52 #[.agg #[.slice A bs.length c0],.agg #[.int .i64 7,.int .i64 a,.int .i64 0,.int .i64 0,.int .i64 0]] w fun e w'=>e=.returned (.bool (isFieldB a))∧Below w.heap.size w w':=by
 have HR:=Lib.hid hr
 have HA:=Lib.hid (((Below.refl w.heap.size w).alloc (Nat.le_refl _) (.cells #[.slice A bs.length c0] 24)).alloc (by simp) (.cells #[.int .i64 7,.int .i64 a,.int .i64 0,.int .i64 0,.int .i64 0] 35))
 clear hr
 go_enter Try.func52,Try.ntmps52
 go_wp2_with (first | (go_at_call 71;refine (arity_calls _ 1 rfl _).mono ?_;rintro e w1 ⟨rfl,⟨⟨q,rfl⟩⟩⟩) | (go_at_call 74;refine (isField_calls a _ _ rfl).mono ?_;rintro e w1 ⟨rfl,⟨⟨q,rfl⟩⟩⟩))
 go_ret
 exact ⟨by first | rfl | (simp;done) | (simp;omega),(by repeat (first | exact HA.out | refine pwbd ?_ _))⟩
set_option maxRecDepth 100000 in
set_option maxHeartbeats 2000000 in
theorem num8 (bs:List S30) (A:Option Addr) (c0:Nat) (a:Int) (w:World) (hr:Kd.C k30 w A bs.length bs) (hc0:bs.length≤c0) :
  Calls Try.prog 52 #[.agg #[.slice A bs.length c0],.agg #[.int .i64 8,.int .i64 a,.int .i64 0,.int .i64 0,.int .i64 0]] w fun e w'=>e=.returned (.bool (isFieldB a))∧Below w.heap.size w w':=by
 have HR:=Lib.hid hr
 have HA:=Lib.hid (((Below.refl w.heap.size w).alloc (Nat.le_refl _) (.cells #[.slice A bs.length c0] 24)).alloc (by simp) (.cells #[.int .i64 8,.int .i64 a,.int .i64 0,.int .i64 0,.int .i64 0] 35))
 clear hr
 go_enter Try.func52,Try.ntmps52
 go_wp2_with (first | (go_at_call 71;refine (arity_calls _ 1 rfl _).mono ?_;rintro e w1 ⟨rfl,⟨⟨q,rfl⟩⟩⟩) | (go_at_call 74;refine (isField_calls a _ _ rfl).mono ?_;rintro e w1 ⟨rfl,⟨⟨q,rfl⟩⟩⟩))
 go_ret
 exact ⟨by first | rfl | (simp;done) | (simp;omega),(by repeat (first | exact HA.out | refine pwbd ?_ _))⟩
set_option maxRecDepth 100000 in
set_option maxHeartbeats 2000000 in
theorem num9 (bs:List S30) (A:Option Addr) (c0:Nat) (a:Int) (w:World) (hr:Kd.C k30 w A bs.length bs) (hc0:bs.length≤c0) :
  Calls Try.prog 52 #[.agg #[.slice A bs.length c0],.agg #[.int .i64 9,.int .i64 a,.int .i64 0,.int .i64 0,.int .i64 0]] w fun e w'=>e=.returned (.bool (isFieldB a))∧Below w.heap.size w w':=by
 have HR:=Lib.hid hr
 have HA:=Lib.hid (((Below.refl w.heap.size w).alloc (Nat.le_refl _) (.cells #[.slice A bs.length c0] 24)).alloc (by simp) (.cells #[.int .i64 9,.int .i64 a,.int .i64 0,.int .i64 0,.int .i64 0] 35))
 clear hr
 go_enter Try.func52,Try.ntmps52
 go_wp2_with (first | (go_at_call 71;refine (arity_calls _ 1 rfl _).mono ?_;rintro e w1 ⟨rfl,⟨⟨q,rfl⟩⟩⟩) | (go_at_call 74;refine (isField_calls a _ _ rfl).mono ?_;rintro e w1 ⟨rfl,⟨⟨q,rfl⟩⟩⟩))
 go_ret
 exact ⟨by first | rfl | (simp;done) | (simp;omega),(by repeat (first | exact HA.out | refine pwbd ?_ _))⟩
set_option maxRecDepth 100000 in
set_option maxHeartbeats 2000000 in
theorem num10 (bs:List S30) (A:Option Addr) (c0:Nat) (a b c:Int) (w:World) (hr:Kd.C k30 w A bs.length bs) (hc0:bs.length≤c0) :
  Calls Try.prog 52 #[.agg #[.slice A bs.length c0],.agg #[.int .i64 10,.int .i64 a,.int .i64 b,.int .i64 c,.int .i64 0]] w fun e w'=>e=.returned (.bool (isFieldB a && (isMessageB bs b && (decide (c ≥ 0) && (decide (c≤2))))))∧Below w.heap.size w w':=by
 have HR:=Lib.hid hr
 have HA:=Lib.hid (((Below.refl w.heap.size w).alloc (Nat.le_refl _) (.cells #[.slice A bs.length c0] 24)).alloc (by simp) (.cells #[.int .i64 10,.int .i64 a,.int .i64 b,.int .i64 c,.int .i64 0] 35))
 have hbx:((w.alloc (.cells #[.slice A bs.length c0] 24)).alloc (.cells #[.int .i64 10,.int .i64 a,.int .i64 b,.int .i64 c,.int .i64 0] 35)).heap[w.heap.size+1]?=some (.cells #[.int .i64 10,.int .i64 a,.int .i64 b,.int .i64 c,.int .i64 0] 35 (0,0)):=by
  have:=blk_new (w.alloc (.cells #[.slice A bs.length c0] 24)) (.cells #[.int .i64 10,.int .i64 a,.int .i64 b,.int .i64 c,.int .i64 0] 35);simpa using this
 have BX:=Lib.hid hbx
 clear hbx
 clear hr
 cases h0:isFieldB a
 case false =>
  go_enter Try.func52,Try.ntmps52
  go_wp2_with (first | (go_at_call 71;refine (arity_calls _ 3 rfl _).mono ?_;rintro e w1 ⟨rfl,⟨⟨q,rfl⟩⟩⟩) | (go_at_call 74;refine (isField_calls a _ false h0).mono ?_;rintro e w1 ⟨rfl,⟨⟨q,rfl⟩⟩⟩))
  go_ret
  exact ⟨by first | rfl | (simp;done) | (simp;omega),(by repeat (first | exact HA.out | refine pwbd ?_ _))⟩
 cases h1:isMessageB bs b
 case false =>
  go_enter Try.func52,Try.ntmps52
  go_wp2_with (first | (go_at_call 71;refine (arity_calls _ 3 rfl _).mono ?_;rintro e w1 ⟨rfl,⟨⟨q,rfl⟩⟩⟩) | (go_at_call 74;refine (isField_calls a _ true h0).mono ?_;rintro e w1 ⟨rfl,⟨⟨q,rfl⟩⟩⟩) | (go_at_call 30;refine (isMessage_calls bs b A c0 _ (Kd.C_below HR.out (by repeat (first | exact HA.out | refine pwbd ?_ _))) hc0 false h1).mono ?_;rintro e w1 ⟨rfl,hb⟩;have HB:=Lib.hid hb;clear hb))
  go_ret
  exact ⟨by first | rfl | (simp;done) | (simp;omega),((by repeat (first | exact HA.out | refine pwbd ?_ _)):Below w.heap.size w _).trans (HB.out.mono (by simp;omega))⟩
 by_cases h2:0≤c
 case neg =>
  have g2:¬ c ≥ 0:=h2
  have k2:c < 0:=by omega
  go_enter Try.func52,Try.ntmps52
  go_wp2_with (first | (go_at_call 71;refine (arity_calls _ 3 rfl _).mono ?_;rintro e w1 ⟨rfl,⟨⟨q,rfl⟩⟩⟩) | (go_at_call 74;refine (isField_calls a _ true h0).mono ?_;rintro e w1 ⟨rfl,⟨⟨q,rfl⟩⟩⟩) | (go_at_call 30;refine (isMessage_calls bs b A c0 _ (Kd.C_below HR.out (by repeat (first | exact HA.out | refine pwbd ?_ _))) hc0 true h1).mono ?_;rintro e w1 ⟨rfl,hb⟩;have q_:=(hb.block (w.heap.size+1) (by simp)).trans BX.out;have x3:=bk_c q_ 3;simp only [List.getElem?_toArray,List.getElem?_cons_zero,List.getElem?_cons_succ] at x3;clear q_;have HB:=Lib.hid hb;clear hb))
  go_ret
  exact ⟨by first | rfl | (simp;done) | (simp;omega),((by repeat (first | exact HA.out | refine pwbd ?_ _)):Below w.heap.size w _).trans (HB.out.mono (by simp;omega))⟩
 have g2:c ≥ 0:=h2
 go_enter Try.func52,Try.ntmps52
 go_wp2_with (first | (go_at_call 71;refine (arity_calls _ 3 rfl _).mono ?_;rintro e w1 ⟨rfl,⟨⟨q,rfl⟩⟩⟩) | (go_at_call 74;refine (isField_calls a _ true h0).mono ?_;rintro e w1 ⟨rfl,⟨⟨q,rfl⟩⟩⟩) | (go_at_call 30;refine (isMessage_calls bs b A c0 _ (Kd.C_below HR.out (by repeat (first | exact HA.out | refine pwbd ?_ _))) hc0 true h1).mono ?_;rintro e w1 ⟨rfl,hb⟩;have q_:=(hb.block (w.heap.size+1) (by simp)).trans BX.out;have x3:=bk_c q_ 3;simp only [List.getElem?_toArray,List.getElem?_cons_zero,List.getElem?_cons_succ] at x3;clear q_;have HB:=Lib.hid hb;clear hb))
 go_ret
 exact ⟨by first | rfl | (simp;done) | (simp;omega),((by repeat (first | exact HA.out | refine pwbd ?_ _)):Below w.heap.size w _).trans (HB.out.mono (by simp;omega))⟩
set_option maxRecDepth 100000 in
set_option maxHeartbeats 2000000 in
theorem num12 (bs:List S30) (A:Option Addr) (c0:Nat) (a b c d:Int) (w:World) (hr:Kd.C k30 w A bs.length bs) (hc0:bs.length≤c0) :
  Calls Try.prog 52 #[.agg #[.slice A bs.length c0],.agg #[.int .i64 12,.int .i64 a,.int .i64 b,.int .i64 c,.int .i64 d]] w fun e w'=>e=.returned (.bool (isFieldB a && (isKeyB b && (isKindB c && (blockB bs c d)))))∧Below w.heap.size w w':=by
 have HR:=Lib.hid hr
 have HA:=Lib.hid (((Below.refl w.heap.size w).alloc (Nat.le_refl _) (.cells #[.slice A bs.length c0] 24)).alloc (by simp) (.cells #[.int .i64 12,.int .i64 a,.int .i64 b,.int .i64 c,.int .i64 d] 35))
 clear hr
 cases h0:isFieldB a
 case false =>
  go_enter Try.func52,Try.ntmps52
  go_wp2_with (first | (go_at_call 71;refine (arity_calls _ 4 rfl _).mono ?_;rintro e w1 ⟨rfl,⟨⟨q,rfl⟩⟩⟩) | (go_at_call 74;refine (isField_calls a _ false h0).mono ?_;rintro e w1 ⟨rfl,⟨⟨q,rfl⟩⟩⟩))
  go_ret
  exact ⟨by first | rfl | (simp;done) | (simp;omega),(by repeat (first | exact HA.out | refine pwbd ?_ _))⟩
 cases h1:isKeyB b
 case false =>
  go_enter Try.func52,Try.ntmps52
  go_wp2_with (first | (go_at_call 71;refine (arity_calls _ 4 rfl _).mono ?_;rintro e w1 ⟨rfl,⟨⟨q,rfl⟩⟩⟩) | (go_at_call 74;refine (isField_calls a _ true h0).mono ?_;rintro e w1 ⟨rfl,⟨⟨q,rfl⟩⟩⟩) | (go_at_call 76;refine (isKey_calls b _ false h1).mono ?_;rintro e w1 ⟨rfl,⟨⟨q,rfl⟩⟩⟩))
  go_ret
  exact ⟨by first | rfl | (simp;done) | (simp;omega),(by repeat (first | exact HA.out | refine pwbd ?_ _))⟩
 cases h2:isKindB c
 case false =>
  go_enter Try.func52,Try.ntmps52
  go_wp2_with (first | (go_at_call 71;refine (arity_calls _ 4 rfl _).mono ?_;rintro e w1 ⟨rfl,⟨⟨q,rfl⟩⟩⟩) | (go_at_call 74;refine (isField_calls a _ true h0).mono ?_;rintro e w1 ⟨rfl,⟨⟨q,rfl⟩⟩⟩) | (go_at_call 76;refine (isKey_calls b _ true h1).mono ?_;rintro e w1 ⟨rfl,⟨⟨q,rfl⟩⟩⟩) | (go_at_call 77;refine (isKind_calls c _ false h2).mono ?_;rintro e w1 ⟨rfl,⟨⟨q,rfl⟩⟩⟩))
  go_ret
  exact ⟨by first | rfl | (simp;done) | (simp;omega),(by repeat (first | exact HA.out | refine pwbd ?_ _))⟩
 go_enter Try.func52,Try.ntmps52
 go_wp2_with (first | (go_at_call 71;refine (arity_calls _ 4 rfl _).mono ?_;rintro e w1 ⟨rfl,⟨⟨q,rfl⟩⟩⟩) | (go_at_call 74;refine (isField_calls a _ true h0).mono ?_;rintro e w1 ⟨rfl,⟨⟨q,rfl⟩⟩⟩) | (go_at_call 76;refine (isKey_calls b _ true h1).mono ?_;rintro e w1 ⟨rfl,⟨⟨q,rfl⟩⟩⟩) | (go_at_call 77;refine (isKind_calls c _ true h2).mono ?_;rintro e w1 ⟨rfl,⟨⟨q,rfl⟩⟩⟩) | (go_at_call 78;refine (block_calls bs c d A c0 _ (Kd.C_below HR.out (by repeat (first | exact HA.out | refine pwbd ?_ _))) hc0 _ rfl).mono ?_;rintro e w1 ⟨rfl,hb⟩;have HB:=Lib.hid hb;clear hb))
 go_ret
 exact ⟨by first | rfl | (simp;done) | (simp;omega),((by repeat (first | exact HA.out | refine pwbd ?_ _)):Below w.heap.size w _).trans (HB.out.mono (by simp;omega))⟩
set_option maxRecDepth 100000 in
set_option maxHeartbeats 2000000 in
theorem num14 (bs:List S30) (A:Option Addr) (c0:Nat) (a b:Int) (w:World) (hr:Kd.C k30 w A bs.length bs) (hc0:bs.length≤c0) :
  Calls Try.prog 52 #[.agg #[.slice A bs.length c0],.agg #[.int .i64 14,.int .i64 a,.int .i64 b,.int .i64 0,.int .i64 0]] w fun e w'=>e=.returned (.bool (isScalarB a && (isFieldB b)))∧Below w.heap.size w w':=by
 have HR:=Lib.hid hr
 have HA:=Lib.hid (((Below.refl w.heap.size w).alloc (Nat.le_refl _) (.cells #[.slice A bs.length c0] 24)).alloc (by simp) (.cells #[.int .i64 14,.int .i64 a,.int .i64 b,.int .i64 0,.int .i64 0] 35))
 clear hr
 cases h0:isScalarB a
 case false =>
  go_enter Try.func52,Try.ntmps52
  go_wp2_with (first | (go_at_call 71;refine (arity_calls _ 2 rfl _).mono ?_;rintro e w1 ⟨rfl,⟨⟨q,rfl⟩⟩⟩) | (go_at_call 72;refine (isScalar_calls a _ false h0).mono ?_;rintro e w1 ⟨rfl,⟨⟨q,rfl⟩⟩⟩))
  go_ret
  exact ⟨by first | rfl | (simp;done) | (simp;omega),(by repeat (first | exact HA.out | refine pwbd ?_ _))⟩
 go_enter Try.func52,Try.ntmps52
 go_wp2_with (first | (go_at_call 71;refine (arity_calls _ 2 rfl _).mono ?_;rintro e w1 ⟨rfl,⟨⟨q,rfl⟩⟩⟩) | (go_at_call 72;refine (isScalar_calls a _ true h0).mono ?_;rintro e w1 ⟨rfl,⟨⟨q,rfl⟩⟩⟩) | (go_at_call 74;refine (isField_calls b _ _ rfl).mono ?_;rintro e w1 ⟨rfl,⟨⟨q,rfl⟩⟩⟩))
 go_ret
 exact ⟨by first | rfl | (simp;done) | (simp;omega),(by repeat (first | exact HA.out | refine pwbd ?_ _))⟩
set_option maxRecDepth 100000 in
set_option maxHeartbeats 2000000 in
theorem num15 (bs:List S30) (A:Option Addr) (c0:Nat) (a b:Int) (w:World) (hr:Kd.C k30 w A bs.length bs) (hc0:bs.length≤c0) :
  Calls Try.prog 52 #[.agg #[.slice A bs.length c0],.agg #[.int .i64 15,.int .i64 a,.int .i64 b,.int .i64 0,.int .i64 0]] w fun e w'=>e=.returned (.bool (isScalarB a && (isFieldB b)))∧Below w.heap.size w w':=by
 have HR:=Lib.hid hr
 have HA:=Lib.hid (((Below.refl w.heap.size w).alloc (Nat.le_refl _) (.cells #[.slice A bs.length c0] 24)).alloc (by simp) (.cells #[.int .i64 15,.int .i64 a,.int .i64 b,.int .i64 0,.int .i64 0] 35))
 clear hr
 cases h0:isScalarB a
 case false =>
  go_enter Try.func52,Try.ntmps52
  go_wp2_with (first | (go_at_call 71;refine (arity_calls _ 2 rfl _).mono ?_;rintro e w1 ⟨rfl,⟨⟨q,rfl⟩⟩⟩) | (go_at_call 72;refine (isScalar_calls a _ false h0).mono ?_;rintro e w1 ⟨rfl,⟨⟨q,rfl⟩⟩⟩))
  go_ret
  exact ⟨by first | rfl | (simp;done) | (simp;omega),(by repeat (first | exact HA.out | refine pwbd ?_ _))⟩
 go_enter Try.func52,Try.ntmps52
 go_wp2_with (first | (go_at_call 71;refine (arity_calls _ 2 rfl _).mono ?_;rintro e w1 ⟨rfl,⟨⟨q,rfl⟩⟩⟩) | (go_at_call 72;refine (isScalar_calls a _ true h0).mono ?_;rintro e w1 ⟨rfl,⟨⟨q,rfl⟩⟩⟩) | (go_at_call 74;refine (isField_calls b _ _ rfl).mono ?_;rintro e w1 ⟨rfl,⟨⟨q,rfl⟩⟩⟩))
 go_ret
 exact ⟨by first | rfl | (simp;done) | (simp;omega),(by repeat (first | exact HA.out | refine pwbd ?_ _))⟩
set_option maxRecDepth 100000 in
set_option maxHeartbeats 2000000 in
theorem num16 (bs:List S30) (A:Option Addr) (c0:Nat) (a b c:Int) (w:World) (hr:Kd.C k30 w A bs.length bs) (hc0:bs.length≤c0) :
  Calls Try.prog 52 #[.agg #[.slice A bs.length c0],.agg #[.int .i64 16,.int .i64 a,.int .i64 b,.int .i64 c,.int .i64 0]] w fun e w'=>e=.returned (.bool (isFieldB a && (decide (c ≥ 0) && (decide (c≤16)))))∧Below w.heap.size w w':=by
 have HR:=Lib.hid hr
 have HA:=Lib.hid (((Below.refl w.heap.size w).alloc (Nat.le_refl _) (.cells #[.slice A bs.length c0] 24)).alloc (by simp) (.cells #[.int .i64 16,.int .i64 a,.int .i64 b,.int .i64 c,.int .i64 0] 35))
 clear hr
 cases h0:isFieldB a
 case false =>
  go_enter Try.func52,Try.ntmps52
  go_wp2_with (first | (go_at_call 71;refine (arity_calls _ 3 rfl _).mono ?_;rintro e w1 ⟨rfl,⟨⟨q,rfl⟩⟩⟩) | (go_at_call 74;refine (isField_calls a _ false h0).mono ?_;rintro e w1 ⟨rfl,⟨⟨q,rfl⟩⟩⟩))
  go_ret
  exact ⟨by first | rfl | (simp;done) | (simp;omega),(by repeat (first | exact HA.out | refine pwbd ?_ _))⟩
 by_cases h1:0≤c
 case neg =>
  have g1:¬ c ≥ 0:=h1
  have k1:c < 0:=by omega
  go_enter Try.func52,Try.ntmps52
  go_wp2_with (first | (go_at_call 71;refine (arity_calls _ 3 rfl _).mono ?_;rintro e w1 ⟨rfl,⟨⟨q,rfl⟩⟩⟩) | (go_at_call 74;refine (isField_calls a _ true h0).mono ?_;rintro e w1 ⟨rfl,⟨⟨q,rfl⟩⟩⟩))
  go_ret
  exact ⟨by first | rfl | (simp;done) | (simp;omega),(by repeat (first | exact HA.out | refine pwbd ?_ _))⟩
 have g1:c ≥ 0:=h1
 go_enter Try.func52,Try.ntmps52
 go_wp2_with (first | (go_at_call 71;refine (arity_calls _ 3 rfl _).mono ?_;rintro e w1 ⟨rfl,⟨⟨q,rfl⟩⟩⟩) | (go_at_call 74;refine (isField_calls a _ true h0).mono ?_;rintro e w1 ⟨rfl,⟨⟨q,rfl⟩⟩⟩))
 go_ret
 exact ⟨by first | rfl | (simp;done) | (simp;omega),(by repeat (first | exact HA.out | refine pwbd ?_ _))⟩
set_option maxRecDepth 100000 in
set_option maxHeartbeats 2000000 in
theorem num17 (bs:List S30) (A:Option Addr) (c0:Nat) (a:Int) (w:World) (hr:Kd.C k30 w A bs.length bs) (hc0:bs.length≤c0) :
  Calls Try.prog 52 #[.agg #[.slice A bs.length c0],.agg #[.int .i64 17,.int .i64 a,.int .i64 0,.int .i64 0,.int .i64 0]] w fun e w'=>e=.returned (.bool (isTagB a))∧Below w.heap.size w w':=by
 have HR:=Lib.hid hr
 have HA:=Lib.hid (((Below.refl w.heap.size w).alloc (Nat.le_refl _) (.cells #[.slice A bs.length c0] 24)).alloc (by simp) (.cells #[.int .i64 17,.int .i64 a,.int .i64 0,.int .i64 0,.int .i64 0] 35))
 clear hr
 go_enter Try.func52,Try.ntmps52
 go_wp2_with (first | (go_at_call 71;refine (arity_calls _ 1 rfl _).mono ?_;rintro e w1 ⟨rfl,⟨⟨q,rfl⟩⟩⟩) | (go_at_call 53;refine (isTag_calls a _ _ rfl).mono ?_;rintro e w1 ⟨rfl,⟨⟨q,rfl⟩⟩⟩))
 go_ret
 exact ⟨by first | rfl | (simp;done) | (simp;omega),(by repeat (first | exact HA.out | refine pwbd ?_ _))⟩
set_option maxRecDepth 100000 in
set_option maxHeartbeats 2000000 in
theorem num19 (bs:List S30) (A:Option Addr) (c0:Nat) (a:Int) (w:World) (hr:Kd.C k30 w A bs.length bs) (hc0:bs.length≤c0) :
  Calls Try.prog 52 #[.agg #[.slice A bs.length c0],.agg #[.int .i64 19,.int .i64 a,.int .i64 0,.int .i64 0,.int .i64 0]] w fun e w'=>e=.returned (.bool (isMessageB bs a))∧Below w.heap.size w w':=by
 have HR:=Lib.hid hr
 have HA:=Lib.hid (((Below.refl w.heap.size w).alloc (Nat.le_refl _) (.cells #[.slice A bs.length c0] 24)).alloc (by simp) (.cells #[.int .i64 19,.int .i64 a,.int .i64 0,.int .i64 0,.int .i64 0] 35))
 clear hr
 go_enter Try.func52,Try.ntmps52
 go_wp2_with (first | (go_at_call 71;refine (arity_calls _ 1 rfl _).mono ?_;rintro e w1 ⟨rfl,⟨⟨q,rfl⟩⟩⟩) | (go_at_call 30;refine (isMessage_calls bs a A c0 _ (Kd.C_below HR.out (by repeat (first | exact HA.out | refine pwbd ?_ _))) hc0 _ rfl).mono ?_;rintro e w1 ⟨rfl,hb⟩;have HB:=Lib.hid hb;clear hb))
 go_ret
 exact ⟨by first | rfl | (simp;done) | (simp;omega),((by repeat (first | exact HA.out | refine pwbd ?_ _)):Below w.heap.size w _).trans (HB.out.mono (by simp;omega))⟩
set_option maxRecDepth 100000 in
set_option maxHeartbeats 2000000 in
theorem num20 (bs:List S30) (A:Option Addr) (c0:Nat) (a b c:Int) (w:World) (hr:Kd.C k30 w A bs.length bs) (hc0:bs.length≤c0) :
  Calls Try.prog 52 #[.agg #[.slice A bs.length c0],.agg #[.int .i64 20,.int .i64 a,.int .i64 b,.int .i64 c,.int .i64 0]] w fun e w'=>e=.returned (.bool (isTagB a && (isKindB b && (blockB bs b c))))∧Below w.heap.size w w':=by
 have HR:=Lib.hid hr
 have HA:=Lib.hid (((Below.refl w.heap.size w).alloc (Nat.le_refl _) (.cells #[.slice A bs.length c0] 24)).alloc (by simp) (.cells #[.int .i64 20,.int .i64 a,.int .i64 b,.int .i64 c,.int .i64 0] 35))
 clear hr
 cases h0:isTagB a
 case false =>
  go_enter Try.func52,Try.ntmps52
  go_wp2_with (first | (go_at_call 71;refine (arity_calls _ 3 rfl _).mono ?_;rintro e w1 ⟨rfl,⟨⟨q,rfl⟩⟩⟩) | (go_at_call 53;refine (isTag_calls a _ false h0).mono ?_;rintro e w1 ⟨rfl,⟨⟨q,rfl⟩⟩⟩))
  go_ret
  exact ⟨by first | rfl | (simp;done) | (simp;omega),(by repeat (first | exact HA.out | refine pwbd ?_ _))⟩
 cases h1:isKindB b
 case false =>
  go_enter Try.func52,Try.ntmps52
  go_wp2_with (first | (go_at_call 71;refine (arity_calls _ 3 rfl _).mono ?_;rintro e w1 ⟨rfl,⟨⟨q,rfl⟩⟩⟩) | (go_at_call 53;refine (isTag_calls a _ true h0).mono ?_;rintro e w1 ⟨rfl,⟨⟨q,rfl⟩⟩⟩) | (go_at_call 77;refine (isKind_calls b _ false h1).mono ?_;rintro e w1 ⟨rfl,⟨⟨q,rfl⟩⟩⟩))
  go_ret
  exact ⟨by first | rfl | (simp;done) | (simp;omega),(by repeat (first | exact HA.out | refine pwbd ?_ _))⟩
 go_enter Try.func52,Try.ntmps52
 go_wp2_with (first | (go_at_call 71;refine (arity_calls _ 3 rfl _).mono ?_;rintro e w1 ⟨rfl,⟨⟨q,rfl⟩⟩⟩) | (go_at_call 53;refine (isTag_calls a _ true h0).mono ?_;rintro e w1 ⟨rfl,⟨⟨q,rfl⟩⟩⟩) | (go_at_call 77;refine (isKind_calls b _ true h1).mono ?_;rintro e w1 ⟨rfl,⟨⟨q,rfl⟩⟩⟩) | (go_at_call 78;refine (block_calls bs b c A c0 _ (Kd.C_below HR.out (by repeat (first | exact HA.out | refine pwbd ?_ _))) hc0 _ rfl).mono ?_;rintro e w1 ⟨rfl,hb⟩;have HB:=Lib.hid hb;clear hb))
 go_ret
 exact ⟨by first | rfl | (simp;done) | (simp;omega),((by repeat (first | exact HA.out | refine pwbd ?_ _)):Below w.heap.size w _).trans (HB.out.mono (by simp;omega))⟩
set_option maxRecDepth 100000 in
set_option maxHeartbeats 2000000 in
theorem num21 (bs:List S30) (A:Option Addr) (c0:Nat) (a b:Int) (w:World) (hr:Kd.C k30 w A bs.length bs) (hc0:bs.length≤c0) :
  Calls Try.prog 52 #[.agg #[.slice A bs.length c0],.agg #[.int .i64 21,.int .i64 a,.int .i64 b,.int .i64 0,.int .i64 0]] w fun e w'=>e=.returned (.bool (isTagB a && (numericB b)))∧Below w.heap.size w w':=by
 have HR:=Lib.hid hr
 have HA:=Lib.hid (((Below.refl w.heap.size w).alloc (Nat.le_refl _) (.cells #[.slice A bs.length c0] 24)).alloc (by simp) (.cells #[.int .i64 21,.int .i64 a,.int .i64 b,.int .i64 0,.int .i64 0] 35))
 clear hr
 cases h0:isTagB a
 case false =>
  go_enter Try.func52,Try.ntmps52
  go_wp2_with (first | (go_at_call 71;refine (arity_calls _ 2 rfl _).mono ?_;rintro e w1 ⟨rfl,⟨⟨q,rfl⟩⟩⟩) | (go_at_call 53;refine (isTag_calls a _ false h0).mono ?_;rintro e w1 ⟨rfl,⟨⟨q,rfl⟩⟩⟩))
  go_ret
  exact ⟨by first | rfl | (simp;done) | (simp;omega),(by repeat (first | exact HA.out | refine pwbd ?_ _))⟩
 go_enter Try.func52,Try.ntmps52
 go_wp2_with (first | (go_at_call 71;refine (arity_calls _ 2 rfl _).mono ?_;rintro e w1 ⟨rfl,⟨⟨q,rfl⟩⟩⟩) | (go_at_call 53;refine (isTag_calls a _ true h0).mono ?_;rintro e w1 ⟨rfl,⟨⟨q,rfl⟩⟩⟩) | (go_at_call 75;refine (numeric_calls b _ _ rfl).mono ?_;rintro e w1 ⟨rfl,⟨⟨q,rfl⟩⟩⟩))
 go_ret
 exact ⟨by first | rfl | (simp;done) | (simp;omega),(by repeat (first | exact HA.out | refine pwbd ?_ _))⟩
set_option maxRecDepth 100000 in
set_option maxHeartbeats 2000000 in
theorem num22 (bs:List S30) (A:Option Addr) (c0:Nat) (a b c d:Int) (w:World) (hr:Kd.C k30 w A bs.length bs) (hc0:bs.length≤c0) :
  Calls Try.prog 52 #[.agg #[.slice A bs.length c0],.agg #[.int .i64 22,.int .i64 a,.int .i64 b,.int .i64 c,.int .i64 d]] w fun e w'=>e=.returned (.bool (isTagB a && (isKeyB b && (isKindB c && (blockB bs c d)))))∧Below w.heap.size w w':=by
 have HR:=Lib.hid hr
 have HA:=Lib.hid (((Below.refl w.heap.size w).alloc (Nat.le_refl _) (.cells #[.slice A bs.length c0] 24)).alloc (by simp) (.cells #[.int .i64 22,.int .i64 a,.int .i64 b,.int .i64 c,.int .i64 d] 35))
 clear hr
 cases h0:isTagB a
 case false =>
  go_enter Try.func52,Try.ntmps52
  go_wp2_with (first | (go_at_call 71;refine (arity_calls _ 4 rfl _).mono ?_;rintro e w1 ⟨rfl,⟨⟨q,rfl⟩⟩⟩) | (go_at_call 53;refine (isTag_calls a _ false h0).mono ?_;rintro e w1 ⟨rfl,⟨⟨q,rfl⟩⟩⟩))
  go_ret
  exact ⟨by first | rfl | (simp;done) | (simp;omega),(by repeat (first | exact HA.out | refine pwbd ?_ _))⟩
 cases h1:isKeyB b
 case false =>
  go_enter Try.func52,Try.ntmps52
  go_wp2_with (first | (go_at_call 71;refine (arity_calls _ 4 rfl _).mono ?_;rintro e w1 ⟨rfl,⟨⟨q,rfl⟩⟩⟩) | (go_at_call 53;refine (isTag_calls a _ true h0).mono ?_;rintro e w1 ⟨rfl,⟨⟨q,rfl⟩⟩⟩) | (go_at_call 76;refine (isKey_calls b _ false h1).mono ?_;rintro e w1 ⟨rfl,⟨⟨q,rfl⟩⟩⟩))
  go_ret
  exact ⟨by first | rfl | (simp;done) | (simp;omega),(by repeat (first | exact HA.out | refine pwbd ?_ _))⟩
 cases h2:isKindB c
 case false =>
  go_enter Try.func52,Try.ntmps52
  go_wp2_with (first | (go_at_call 71;refine (arity_calls _ 4 rfl _).mono ?_;rintro e w1 ⟨rfl,⟨⟨q,rfl⟩⟩⟩) | (go_at_call 53;refine (isTag_calls a _ true h0).mono ?_;rintro e w1 ⟨rfl,⟨⟨q,rfl⟩⟩⟩) | (go_at_call 76;refine (isKey_calls b _ true h1).mono ?_;rintro e w1 ⟨rfl,⟨⟨q,rfl⟩⟩⟩) | (go_at_call 77;refine (isKind_calls c _ false h2).mono ?_;rintro e w1 ⟨rfl,⟨⟨q,rfl⟩⟩⟩))
  go_ret
  exact ⟨by first | rfl | (simp;done) | (simp;omega),(by repeat (first | exact HA.out | refine pwbd ?_ _))⟩
 go_enter Try.func52,Try.ntmps52
 go_wp2_with (first | (go_at_call 71;refine (arity_calls _ 4 rfl _).mono ?_;rintro e w1 ⟨rfl,⟨⟨q,rfl⟩⟩⟩) | (go_at_call 53;refine (isTag_calls a _ true h0).mono ?_;rintro e w1 ⟨rfl,⟨⟨q,rfl⟩⟩⟩) | (go_at_call 76;refine (isKey_calls b _ true h1).mono ?_;rintro e w1 ⟨rfl,⟨⟨q,rfl⟩⟩⟩) | (go_at_call 77;refine (isKind_calls c _ true h2).mono ?_;rintro e w1 ⟨rfl,⟨⟨q,rfl⟩⟩⟩) | (go_at_call 78;refine (block_calls bs c d A c0 _ (Kd.C_below HR.out (by repeat (first | exact HA.out | refine pwbd ?_ _))) hc0 _ rfl).mono ?_;rintro e w1 ⟨rfl,hb⟩;have HB:=Lib.hid hb;clear hb))
 go_ret
 exact ⟨by first | rfl | (simp;done) | (simp;omega),((by repeat (first | exact HA.out | refine pwbd ?_ _)):Below w.heap.size w _).trans (HB.out.mono (by simp;omega))⟩
set_option maxRecDepth 100000 in
set_option maxHeartbeats 2000000 in
theorem num25 (bs:List S30) (A:Option Addr) (c0:Nat) (a b:Int) (w:World) (hr:Kd.C k30 w A bs.length bs) (hc0:bs.length≤c0) :
  Calls Try.prog 52 #[.agg #[.slice A bs.length c0],.agg #[.int .i64 25,.int .i64 a,.int .i64 b,.int .i64 0,.int .i64 0]] w fun e w'=>e=.returned (.bool (isTagB a && (isScalarB b)))∧Below w.heap.size w w':=by
 have HR:=Lib.hid hr
 have HA:=Lib.hid (((Below.refl w.heap.size w).alloc (Nat.le_refl _) (.cells #[.slice A bs.length c0] 24)).alloc (by simp) (.cells #[.int .i64 25,.int .i64 a,.int .i64 b,.int .i64 0,.int .i64 0] 35))
 clear hr
 cases h0:isTagB a
 case false =>
  go_enter Try.func52,Try.ntmps52
  go_wp2_with (first | (go_at_call 71;refine (arity_calls _ 2 rfl _).mono ?_;rintro e w1 ⟨rfl,⟨⟨q,rfl⟩⟩⟩) | (go_at_call 53;refine (isTag_calls a _ false h0).mono ?_;rintro e w1 ⟨rfl,⟨⟨q,rfl⟩⟩⟩))
  go_ret
  exact ⟨by first | rfl | (simp;done) | (simp;omega),(by repeat (first | exact HA.out | refine pwbd ?_ _))⟩
 go_enter Try.func52,Try.ntmps52
 go_wp2_with (first | (go_at_call 71;refine (arity_calls _ 2 rfl _).mono ?_;rintro e w1 ⟨rfl,⟨⟨q,rfl⟩⟩⟩) | (go_at_call 53;refine (isTag_calls a _ true h0).mono ?_;rintro e w1 ⟨rfl,⟨⟨q,rfl⟩⟩⟩) | (go_at_call 72;refine (isScalar_calls b _ _ rfl).mono ?_;rintro e w1 ⟨rfl,⟨⟨q,rfl⟩⟩⟩))
 go_ret
 exact ⟨by first | rfl | (simp;done) | (simp;omega),(by repeat (first | exact HA.out | refine pwbd ?_ _))⟩
set_option maxRecDepth 100000 in
set_option maxHeartbeats 2000000 in
theorem num3 (bs:List S30) (A:Option Addr) (c0:Nat) (a:Int) (w:World) (hr:Kd.C k30 w A bs.length bs) (hc0:bs.length≤c0) :
  Calls Try.prog 52 #[.agg #[.slice A bs.length c0],.agg #[.int .i64 3,.int .i64 a,.int .i64 0,.int .i64 0,.int .i64 0]] w fun e w'=>e=.returned (.bool (true))∧Below w.heap.size w w':=by
 have HR:=Lib.hid hr
 have HA:=Lib.hid (((Below.refl w.heap.size w).alloc (Nat.le_refl _) (.cells #[.slice A bs.length c0] 24)).alloc (by simp) (.cells #[.int .i64 3,.int .i64 a,.int .i64 0,.int .i64 0,.int .i64 0] 35))
 clear hr
 go_enter Try.func52,Try.ntmps52
 go_wp2_with (first | (go_at_call 71;refine (arity_calls _ 1 rfl _).mono ?_;rintro e w1 ⟨rfl,⟨⟨q,rfl⟩⟩⟩))
 go_ret
 exact ⟨by first | rfl | (simp;done) | (simp;omega),(by repeat (first | exact HA.out | refine pwbd ?_ _))⟩
set_option maxRecDepth 100000 in
set_option maxHeartbeats 2000000 in
theorem num4 (bs:List S30) (A:Option Addr) (c0:Nat) (a:Int) (w:World) (hr:Kd.C k30 w A bs.length bs) (hc0:bs.length≤c0) :
  Calls Try.prog 52 #[.agg #[.slice A bs.length c0],.agg #[.int .i64 4,.int .i64 a,.int .i64 0,.int .i64 0,.int .i64 0]] w fun e w'=>e=.returned (.bool (true))∧Below w.heap.size w w':=by
 have HR:=Lib.hid hr
 have HA:=Lib.hid (((Below.refl w.heap.size w).alloc (Nat.le_refl _) (.cells #[.slice A bs.length c0] 24)).alloc (by simp) (.cells #[.int .i64 4,.int .i64 a,.int .i64 0,.int .i64 0,.int .i64 0] 35))
 clear hr
 go_enter Try.func52,Try.ntmps52
 go_wp2_with (first | (go_at_call 71;refine (arity_calls _ 1 rfl _).mono ?_;rintro e w1 ⟨rfl,⟨⟨q,rfl⟩⟩⟩))
 go_ret
 exact ⟨by first | rfl | (simp;done) | (simp;omega),(by repeat (first | exact HA.out | refine pwbd ?_ _))⟩
set_option maxRecDepth 100000 in
set_option maxHeartbeats 2000000 in
theorem num11e0 (bs:List S30) (A:Option Addr) (c0:Nat) (a c:Int) (w:World) (hr:Kd.C k30 w A bs.length bs) (hc0:bs.length≤c0) (h0:isFieldB a=false) :
  Calls Try.prog 52 #[.agg #[.slice A bs.length c0],.agg #[.int .i64 11,.int .i64 a,.int .i64 16,.int .i64 c,.int .i64 0]] w fun e w'=>e=.returned (.bool (false))∧Below w.heap.size w w':=by
 have HR:=Lib.hid hr
 have HA:=Lib.hid (((Below.refl w.heap.size w).alloc (Nat.le_refl _) (.cells #[.slice A bs.length c0] 24)).alloc (by simp) (.cells #[.int .i64 11,.int .i64 a,.int .i64 16,.int .i64 c,.int .i64 0] 35))
 clear hr
 go_enter Try.func52,Try.ntmps52
 go_wp2_with (first | (go_at_call 71;refine (arity_calls _ 3 rfl _).mono ?_;rintro e w1 ⟨rfl,⟨⟨q,rfl⟩⟩⟩) | (go_at_call 74;refine (isField_calls a _ false h0).mono ?_;rintro e w1 ⟨rfl,⟨⟨q,rfl⟩⟩⟩))
 go_ret
 exact ⟨rfl,(by repeat (first | exact HA.out | refine pwbd ?_ _))⟩
set_option maxRecDepth 100000 in
set_option maxHeartbeats 2000000 in
theorem num11e1 (bs:List S30) (A:Option Addr) (c0:Nat) (a c:Int) (w:World) (hr:Kd.C k30 w A bs.length bs) (hc0:bs.length≤c0) (h0:isFieldB a=true) :
  Calls Try.prog 52 #[.agg #[.slice A bs.length c0],.agg #[.int .i64 11,.int .i64 a,.int .i64 16,.int .i64 c,.int .i64 0]] w fun e w'=>e=.returned (.bool (isEnumB bs (wrap64 (c - 1))))∧Below w.heap.size w w':=by
 have HR:=Lib.hid hr
 have HA:=Lib.hid (((Below.refl w.heap.size w).alloc (Nat.le_refl _) (.cells #[.slice A bs.length c0] 24)).alloc (by simp) (.cells #[.int .i64 11,.int .i64 a,.int .i64 16,.int .i64 c,.int .i64 0] 35))
 clear hr
 go_enter Try.func52,Try.ntmps52
 go_wp2_with (first | (go_at_call 71;refine (arity_calls _ 3 rfl _).mono ?_;rintro e w1 ⟨rfl,⟨⟨q,rfl⟩⟩⟩) | (go_at_call 74;refine (isField_calls a _ true h0).mono ?_;rintro e w1 ⟨rfl,⟨⟨q,rfl⟩⟩⟩) | (go_at_call 73;refine (isEnum_calls bs _ A c0 _ (Kd.C_below HR.out (by repeat (first | exact HA.out | refine pwbd ?_ _))) hc0 _ rfl).mono ?_;rintro e w1 ⟨rfl,hb⟩;have HB:=Lib.hid hb;clear hb))
 go_ret
 exact ⟨by first | rfl | (rw [i64_w];done) | (simp [i64_w];done),((by repeat (first | exact HA.out | refine pwbd ?_ _)):Below w.heap.size w _).trans (HB.out.mono (by simp;omega))⟩
set_option maxRecDepth 100000 in
set_option maxHeartbeats 2000000 in
theorem num11n0 (bs:List S30) (A:Option Addr) (c0:Nat) (a b c:Int) (w:World) (hr:Kd.C k30 w A bs.length bs) (hc0:bs.length≤c0) (hb:b≠16) (h0:isFieldB a=false) :
  Calls Try.prog 52 #[.agg #[.slice A bs.length c0],.agg #[.int .i64 11,.int .i64 a,.int .i64 b,.int .i64 c,.int .i64 0]] w fun e w'=>e=.returned (.bool (false))∧Below w.heap.size w w':=by
 have HR:=Lib.hid hr
 have HA:=Lib.hid (((Below.refl w.heap.size w).alloc (Nat.le_refl _) (.cells #[.slice A bs.length c0] 24)).alloc (by simp) (.cells #[.int .i64 11,.int .i64 a,.int .i64 b,.int .i64 c,.int .i64 0] 35))
 clear hr
 have hb16:(b == 16)=false:=beq_eq_false_iff_ne.mpr hb
 clear hb
 go_enter Try.func52,Try.ntmps52
 go_wp2_with (first | (go_at_call 71;refine (arity_calls _ 3 rfl _).mono ?_;rintro e w1 ⟨rfl,⟨⟨q,rfl⟩⟩⟩) | (go_at_call 74;refine (isField_calls a _ false h0).mono ?_;rintro e w1 ⟨rfl,⟨⟨q,rfl⟩⟩⟩))
 go_ret
 exact ⟨rfl,(by repeat (first | exact HA.out | refine pwbd ?_ _))⟩
set_option maxRecDepth 100000 in
set_option maxHeartbeats 2000000 in
theorem num11n1 (bs:List S30) (A:Option Addr) (c0:Nat) (a b c:Int) (w:World) (hr:Kd.C k30 w A bs.length bs) (hc0:bs.length≤c0) (hb:b≠16) (h0:isFieldB a=true) (h1:numericB b=false) :
  Calls Try.prog 52 #[.agg #[.slice A bs.length c0],.agg #[.int .i64 11,.int .i64 a,.int .i64 b,.int .i64 c,.int .i64 0]] w fun e w'=>e=.returned (.bool (false))∧Below w.heap.size w w':=by
 have HR:=Lib.hid hr
 have HA:=Lib.hid (((Below.refl w.heap.size w).alloc (Nat.le_refl _) (.cells #[.slice A bs.length c0] 24)).alloc (by simp) (.cells #[.int .i64 11,.int .i64 a,.int .i64 b,.int .i64 c,.int .i64 0] 35))
 clear hr
 have hb16:(b == 16)=false:=beq_eq_false_iff_ne.mpr hb
 clear hb
 go_enter Try.func52,Try.ntmps52
 go_wp2_with (first | (go_at_call 71;refine (arity_calls _ 3 rfl _).mono ?_;rintro e w1 ⟨rfl,⟨⟨q,rfl⟩⟩⟩) | (go_at_call 74;refine (isField_calls a _ true h0).mono ?_;rintro e w1 ⟨rfl,⟨⟨q,rfl⟩⟩⟩) | (go_at_call 75;refine (numeric_calls b _ false h1).mono ?_;rintro e w1 ⟨rfl,⟨⟨q,rfl⟩⟩⟩))
 go_ret
 exact ⟨rfl,(by repeat (first | exact HA.out | refine pwbd ?_ _))⟩
set_option maxRecDepth 100000 in
set_option maxHeartbeats 2000000 in
theorem num11n2 (bs:List S30) (A:Option Addr) (c0:Nat) (a b c:Int) (w:World) (hr:Kd.C k30 w A bs.length bs) (hc0:bs.length≤c0) (hb:b≠16) (h0:isFieldB a=true) (h1:numericB b=true) :
  Calls Try.prog 52 #[.agg #[.slice A bs.length c0],.agg #[.int .i64 11,.int .i64 a,.int .i64 b,.int .i64 c,.int .i64 0]] w fun e w'=>e=.returned (.bool ((c == 0)))∧Below w.heap.size w w':=by
 have HR:=Lib.hid hr
 have HA:=Lib.hid (((Below.refl w.heap.size w).alloc (Nat.le_refl _) (.cells #[.slice A bs.length c0] 24)).alloc (by simp) (.cells #[.int .i64 11,.int .i64 a,.int .i64 b,.int .i64 c,.int .i64 0] 35))
 clear hr
 have hb16:(b == 16)=false:=beq_eq_false_iff_ne.mpr hb
 clear hb
 go_enter Try.func52,Try.ntmps52
 go_wp2_with (first | (go_at_call 71;refine (arity_calls _ 3 rfl _).mono ?_;rintro e w1 ⟨rfl,⟨⟨q,rfl⟩⟩⟩) | (go_at_call 74;refine (isField_calls a _ true h0).mono ?_;rintro e w1 ⟨rfl,⟨⟨q,rfl⟩⟩⟩) | (go_at_call 75;refine (numeric_calls b _ true h1).mono ?_;rintro e w1 ⟨rfl,⟨⟨q,rfl⟩⟩⟩))
 go_ret
 exact ⟨by first | rfl | (simp;done) | (simp;omega),(by repeat (first | exact HA.out | refine pwbd ?_ _))⟩
set_option maxRecDepth 100000 in
set_option maxHeartbeats 2000000 in
theorem numgd (bs:List S30) (A:Option Addr) (c0:Nat) (op n a b c d:Int) (w:World) (hr:Kd.C k30 w A bs.length bs) (hc0:bs.length≤c0) (hn:ar op=n) (hl:n < 4) (hv:d≠0) :
  Calls Try.prog 52 #[.agg #[.slice A bs.length c0],.agg #[.int .i64 op,.int .i64 a,.int .i64 b,.int .i64 c,.int .i64 d]] w fun e w'=>e=.returned (.bool (false))∧Below w.heap.size w w':=by
 have HR:=Lib.hid hr
 have HA:=Lib.hid (((Below.refl w.heap.size w).alloc (Nat.le_refl _) (.cells #[.slice A bs.length c0] 24)).alloc (by simp) (.cells #[.int .i64 op,.int .i64 a,.int .i64 b,.int .i64 c,.int .i64 d] 35))
 clear hr
 have HAR:=Lib.hid hn
 clear hn
 have hv1:(d != 0)=true:=bne_iff_ne.mpr hv
 clear hv
 go_enter Try.func52,Try.ntmps52
 go_wp2_with (first | (go_at_call 71;refine (arity_calls _ n HAR.out _).mono ?_;rintro e w1 ⟨rfl,⟨⟨q,rfl⟩⟩⟩))
 go_ret
 exact ⟨by first | rfl | (simp;done) | (simp;omega),(by repeat (first | exact HA.out | refine pwbd ?_ _))⟩
set_option maxRecDepth 100000 in
set_option maxHeartbeats 2000000 in
theorem numgc (bs:List S30) (A:Option Addr) (c0:Nat) (op n a b c:Int) (w:World) (hr:Kd.C k30 w A bs.length bs) (hc0:bs.length≤c0) (hn:ar op=n) (hl:n < 3) (hv:c≠0) :
  Calls Try.prog 52 #[.agg #[.slice A bs.length c0],.agg #[.int .i64 op,.int .i64 a,.int .i64 b,.int .i64 c,.int .i64 0]] w fun e w'=>e=.returned (.bool (false))∧Below w.heap.size w w':=by
 have HR:=Lib.hid hr
 have HA:=Lib.hid (((Below.refl w.heap.size w).alloc (Nat.le_refl _) (.cells #[.slice A bs.length c0] 24)).alloc (by simp) (.cells #[.int .i64 op,.int .i64 a,.int .i64 b,.int .i64 c,.int .i64 0] 35))
 clear hr
 have HAR:=Lib.hid hn
 clear hn
 have hl4:n < 4:=by omega
 have hv1:(c != 0)=true:=bne_iff_ne.mpr hv
 clear hv
 go_enter Try.func52,Try.ntmps52
 go_wp2_with (first | (go_at_call 71;refine (arity_calls _ n HAR.out _).mono ?_;rintro e w1 ⟨rfl,⟨⟨q,rfl⟩⟩⟩))
 go_ret
 exact ⟨by first | rfl | (simp;done) | (simp;omega),(by repeat (first | exact HA.out | refine pwbd ?_ _))⟩
set_option maxRecDepth 100000 in
set_option maxHeartbeats 2000000 in
theorem numgb (bs:List S30) (A:Option Addr) (c0:Nat) (op n a b:Int) (w:World) (hr:Kd.C k30 w A bs.length bs) (hc0:bs.length≤c0) (hn:ar op=n) (hl:n < 2) (hv:b≠0) :
  Calls Try.prog 52 #[.agg #[.slice A bs.length c0],.agg #[.int .i64 op,.int .i64 a,.int .i64 b,.int .i64 0,.int .i64 0]] w fun e w'=>e=.returned (.bool (false))∧Below w.heap.size w w':=by
 have HR:=Lib.hid hr
 have HA:=Lib.hid (((Below.refl w.heap.size w).alloc (Nat.le_refl _) (.cells #[.slice A bs.length c0] 24)).alloc (by simp) (.cells #[.int .i64 op,.int .i64 a,.int .i64 b,.int .i64 0,.int .i64 0] 35))
 clear hr
 have HAR:=Lib.hid hn
 clear hn
 have hl3:n < 3:=by omega
 have hl4:n < 4:=by omega
 have hv1:(b != 0)=true:=bne_iff_ne.mpr hv
 clear hv
 go_enter Try.func52,Try.ntmps52
 go_wp2_with (first | (go_at_call 71;refine (arity_calls _ n HAR.out _).mono ?_;rintro e w1 ⟨rfl,⟨⟨q,rfl⟩⟩⟩))
 go_ret
 exact ⟨by first | rfl | (simp;done) | (simp;omega),(by repeat (first | exact HA.out | refine pwbd ?_ _))⟩
set_option maxRecDepth 100000 in
set_option maxHeartbeats 2000000 in
theorem numga (bs:List S30) (A:Option Addr) (c0:Nat) (op n a:Int) (w:World) (hr:Kd.C k30 w A bs.length bs) (hc0:bs.length≤c0) (hn:ar op=n) (hl:n < 1) (hv:a≠0) :
  Calls Try.prog 52 #[.agg #[.slice A bs.length c0],.agg #[.int .i64 op,.int .i64 a,.int .i64 0,.int .i64 0,.int .i64 0]] w fun e w'=>e=.returned (.bool (false))∧Below w.heap.size w w':=by
 have HR:=Lib.hid hr
 have HA:=Lib.hid (((Below.refl w.heap.size w).alloc (Nat.le_refl _) (.cells #[.slice A bs.length c0] 24)).alloc (by simp) (.cells #[.int .i64 op,.int .i64 a,.int .i64 0,.int .i64 0,.int .i64 0] 35))
 clear hr
 have HAR:=Lib.hid hn
 clear hn
 have hl2:n < 2:=by omega
 have hl3:n < 3:=by omega
 have hl4:n < 4:=by omega
 have hv1:(a != 0)=true:=bne_iff_ne.mpr hv
 clear hv
 go_enter Try.func52,Try.ntmps52
 go_wp2_with (first | (go_at_call 71;refine (arity_calls _ n HAR.out _).mono ?_;rintro e w1 ⟨rfl,⟨⟨q,rfl⟩⟩⟩))
 go_ret
 exact ⟨by first | rfl | (simp;done) | (simp;omega),(by repeat (first | exact HA.out | refine pwbd ?_ _))⟩
set_option maxRecDepth 100000 in
set_option maxHeartbeats 2000000 in
theorem numd (bs:List S30) (A:Option Addr) (c0:Nat) (op:Int) (w:World) (hr:Kd.C k30 w A bs.length bs) (hc0:bs.length≤c0) (hn:ar op=0) (e2:op≠2) (e5:op≠5) (e18:op≠18) (e6:op≠6) (e7:op≠7) (e8:op≠8) (e9:op≠9) (e10:op≠10) (e11:op≠11) (e12:op≠12) (e14:op≠14) (e15:op≠15) (e16:op≠16) (e17:op≠17) (e19:op≠19) (e20:op≠20) (e21:op≠21) (e22:op≠22) (e25:op≠25) :
  Calls Try.prog 52 #[.agg #[.slice A bs.length c0],.agg #[.int .i64 op,.int .i64 0,.int .i64 0,.int .i64 0,.int .i64 0]] w fun e w'=>e=.returned (.bool (true))∧Below w.heap.size w w':=by
 have HR:=Lib.hid hr
 have HA:=Lib.hid (((Below.refl w.heap.size w).alloc (Nat.le_refl _) (.cells #[.slice A bs.length c0] 24)).alloc (by simp) (.cells #[.int .i64 op,.int .i64 0,.int .i64 0,.int .i64 0,.int .i64 0] 35))
 clear hr
 have HAR:=Lib.hid hn
 clear hn
 replace e2:(op == 2)=false:=beq_eq_false_iff_ne.mpr e2
 replace e5:(op == 5)=false:=beq_eq_false_iff_ne.mpr e5
 replace e18:(op == 18)=false:=beq_eq_false_iff_ne.mpr e18
 replace e6:(op == 6)=false:=beq_eq_false_iff_ne.mpr e6
 replace e7:(op == 7)=false:=beq_eq_false_iff_ne.mpr e7
 replace e8:(op == 8)=false:=beq_eq_false_iff_ne.mpr e8
 replace e9:(op == 9)=false:=beq_eq_false_iff_ne.mpr e9
 replace e10:(op == 10)=false:=beq_eq_false_iff_ne.mpr e10
 replace e11:(op == 11)=false:=beq_eq_false_iff_ne.mpr e11
 replace e12:(op == 12)=false:=beq_eq_false_iff_ne.mpr e12
 replace e14:(op == 14)=false:=beq_eq_false_iff_ne.mpr e14
 replace e15:(op == 15)=false:=beq_eq_false_iff_ne.mpr e15
 replace e16:(op == 16)=false:=beq_eq_false_iff_ne.mpr e16
 replace e17:(op == 17)=false:=beq_eq_false_iff_ne.mpr e17
 replace e19:(op == 19)=false:=beq_eq_false_iff_ne.mpr e19
 replace e20:(op == 20)=false:=beq_eq_false_iff_ne.mpr e20
 replace e21:(op == 21)=false:=beq_eq_false_iff_ne.mpr e21
 replace e22:(op == 22)=false:=beq_eq_false_iff_ne.mpr e22
 replace e25:(op == 25)=false:=beq_eq_false_iff_ne.mpr e25
 go_enter Try.func52,Try.ntmps52
 go_wp2_with (first | (go_at_call 71;refine (arity_calls _ 0 HAR.out _).mono ?_;rintro e w1 ⟨rfl,⟨⟨q,rfl⟩⟩⟩))
 go_ret
 exact ⟨by first | rfl | (simp;done) | (simp;omega),(by repeat (first | exact HA.out | refine pwbd ?_ _))⟩
def gdB (n a b c d : Int) : Bool := (decide (n < 4) && d != 0) || ((decide (n < 3) && c != 0) || ((decide (n < 2) && b != 0) || (decide (n < 1) && a != 0)))
def bodyB (bs : List S30) (op a b c d : Int) : Bool := if op = 2 then isTagB a else if op = 5 then isScalarB a else if op = 18 then isScalarB a else if op = 6 then isEnumB bs a else if op = 7 then isFieldB a else if op = 8 then isFieldB a else if op = 9 then isFieldB a else if op = 10 then isFieldB a && (isMessageB bs b && (decide (c ≥ 0) && (decide (c ≤ 2)))) else if op = 11 then (if b = 16 then (isFieldB a && isEnumB bs (wrap64 (c - 1))) else (isFieldB a && (numericB b && (c == 0)))) else if op = 12 then isFieldB a && (isKeyB b && (isKindB c && (blockB bs c d))) else if op = 14 then isScalarB a && (isFieldB b) else if op = 15 then isScalarB a && (isFieldB b) else if op = 16 then isFieldB a && (decide (c ≥ 0) && (decide (c ≤ 16))) else if op = 17 then isTagB a else if op = 19 then isMessageB bs a else if op = 20 then isTagB a && (isKindB b && (blockB bs b c)) else if op = 21 then isTagB a && (numericB b) else if op = 22 then isTagB a && (isKeyB b && (isKindB c && (blockB bs c d))) else if op = 25 then isTagB a && (isScalarB b) else true
def numB (bs : List S30) (op a b c d : Int) : Bool := if gdB (ar op) a b c d = true then false else bodyB bs op a b c d
theorem numB_calls (bs : List S30) (A : Option Addr) (c0 : Nat) (op a b c d : Int) (w : World) (hr : Kd.C k30 w A bs.length bs) (hc0 : bs.length ≤ c0) :
    Calls Try.prog 52 #[.agg #[.slice A bs.length c0], .agg #[.int .i64 op, .int .i64 a, .int .i64 b, .int .i64 c, .int .i64 d]] w fun e w' => e = .returned (.bool (numB bs op a b c d)) ∧ Below w.heap.size w w' := by
  by_cases hg : gdB (ar op) a b c d = true
  · have e : numB bs op a b c d = false := by unfold numB; rw [if_pos hg]
    rw [e]
    unfold gdB at hg
    simp only [Bool.or_eq_true, Bool.and_eq_true, decide_eq_true_eq, bne_iff_ne] at hg
    by_cases hd : ar op < 4 ∧ d ≠ 0
    · exact numgd bs A c0 op _ a b c d w hr hc0 rfl hd.1 hd.2
    · have h1 : ar op < 4 := by rcases hg with h | h | h | h <;> omega
      obtain rfl : d = 0 := by false_or_by_contra; exact hd ⟨h1, ‹_›⟩
      by_cases hc : ar op < 3 ∧ c ≠ 0
      · exact numgc bs A c0 op _ a b c w hr hc0 rfl hc.1 hc.2
      · have h2 : ar op < 3 := by rcases hg with h | h | h | h <;> first | omega | exact absurd rfl h.2
        obtain rfl : c = 0 := by false_or_by_contra; exact hc ⟨h2, ‹_›⟩
        by_cases hb : ar op < 2 ∧ b ≠ 0
        · exact numgb bs A c0 op _ a b w hr hc0 rfl hb.1 hb.2
        · have h3 : ar op < 2 := by rcases hg with h | h | h | h <;> first | omega | exact absurd rfl h.2
          obtain rfl : b = 0 := by false_or_by_contra; exact hb ⟨h3, ‹_›⟩
          by_cases ha : ar op < 1 ∧ a ≠ 0
          · exact numga bs A c0 op _ a w hr hc0 rfl ha.1 ha.2
          · exfalso; rcases hg with h | h | h | h <;> first | exact h.2 rfl | exact ha h
  · have e : numB bs op a b c d = bodyB bs op a b c d := by unfold numB; rw [if_neg hg]
    rw [e]
    clear e
    have z : ∀ {m : Int} {x : Int}, (decide (ar op < m) && x != 0) = false → ar op < m → x = 0 := fun h h' => by simpa [h'] using h
    have hg2 := Bool.eq_false_iff.mpr hg
    unfold gdB at hg2
    simp only [Bool.or_eq_false_iff] at hg2
    obtain ⟨g4, g3, g2, g1⟩ := hg2
    have Z4 := fun h => z g4 h
    have Z3 := fun h => z g3 h
    have Z2 := fun h => z g2 h
    have Z1 := fun h => z g1 h
    clear z g4 g3 g2 g1 hg
    by_cases e2 : op = 2
    case pos =>
      subst e2
      obtain rfl : d = 0 := Z4 (by decide)
      obtain rfl : c = 0 := Z3 (by decide)
      exact num2 bs A c0 a b w hr hc0
    by_cases e5 : op = 5
    case pos =>
      subst e5
      obtain rfl : d = 0 := Z4 (by decide)
      obtain rfl : c = 0 := Z3 (by decide)
      obtain rfl : b = 0 := Z2 (by decide)
      exact num5 bs A c0 a w hr hc0
    by_cases e18 : op = 18
    case pos =>
      subst e18
      obtain rfl : d = 0 := Z4 (by decide)
      obtain rfl : c = 0 := Z3 (by decide)
      obtain rfl : b = 0 := Z2 (by decide)
      exact num18 bs A c0 a w hr hc0
    by_cases e6 : op = 6
    case pos =>
      subst e6
      obtain rfl : d = 0 := Z4 (by decide)
      obtain rfl : c = 0 := Z3 (by decide)
      obtain rfl : b = 0 := Z2 (by decide)
      exact num6 bs A c0 a w hr hc0
    by_cases e7 : op = 7
    case pos =>
      subst e7
      obtain rfl : d = 0 := Z4 (by decide)
      obtain rfl : c = 0 := Z3 (by decide)
      obtain rfl : b = 0 := Z2 (by decide)
      exact num7 bs A c0 a w hr hc0
    by_cases e8 : op = 8
    case pos =>
      subst e8
      obtain rfl : d = 0 := Z4 (by decide)
      obtain rfl : c = 0 := Z3 (by decide)
      obtain rfl : b = 0 := Z2 (by decide)
      exact num8 bs A c0 a w hr hc0
    by_cases e9 : op = 9
    case pos =>
      subst e9
      obtain rfl : d = 0 := Z4 (by decide)
      obtain rfl : c = 0 := Z3 (by decide)
      obtain rfl : b = 0 := Z2 (by decide)
      exact num9 bs A c0 a w hr hc0
    by_cases e10 : op = 10
    case pos =>
      subst e10
      obtain rfl : d = 0 := Z4 (by decide)
      exact num10 bs A c0 a b c w hr hc0
    by_cases e11 : op = 11
    case pos =>
      subst e11
      obtain rfl : d = 0 := Z4 (by decide)
      by_cases hb : b = 16
      · subst hb
        cases h0 : isFieldB a with
        | false => have e : bodyB bs 11 a 16 c 0 = false := by simp [bodyB, h0]
                   rw [e]; exact num11e0 bs A c0 a c w hr hc0 h0
        | true => have e : bodyB bs 11 a 16 c 0 = isEnumB bs (wrap64 (c - 1)) := by simp [bodyB, h0]
                  rw [e]; exact num11e1 bs A c0 a c w hr hc0 h0
      · cases h0 : isFieldB a with
        | false => have e : bodyB bs 11 a b c 0 = false := by simp [bodyB, h0]
                   rw [e]; exact num11n0 bs A c0 a b c w hr hc0 hb h0
        | true =>
          cases h1 : numericB b with
          | false => have e : bodyB bs 11 a b c 0 = false := by simp [bodyB, h0, h1, hb]
                     rw [e]; exact num11n1 bs A c0 a b c w hr hc0 hb h0 h1
          | true => have e : bodyB bs 11 a b c 0 = (c == 0) := by simp [bodyB, h0, h1, hb]
                    rw [e]; exact num11n2 bs A c0 a b c w hr hc0 hb h0 h1
    by_cases e12 : op = 12
    case pos =>
      subst e12
      exact num12 bs A c0 a b c d w hr hc0
    by_cases e14 : op = 14
    case pos =>
      subst e14
      obtain rfl : d = 0 := Z4 (by decide)
      obtain rfl : c = 0 := Z3 (by decide)
      exact num14 bs A c0 a b w hr hc0
    by_cases e15 : op = 15
    case pos =>
      subst e15
      obtain rfl : d = 0 := Z4 (by decide)
      obtain rfl : c = 0 := Z3 (by decide)
      exact num15 bs A c0 a b w hr hc0
    by_cases e16 : op = 16
    case pos =>
      subst e16
      obtain rfl : d = 0 := Z4 (by decide)
      exact num16 bs A c0 a b c w hr hc0
    by_cases e17 : op = 17
    case pos =>
      subst e17
      obtain rfl : d = 0 := Z4 (by decide)
      obtain rfl : c = 0 := Z3 (by decide)
      obtain rfl : b = 0 := Z2 (by decide)
      exact num17 bs A c0 a w hr hc0
    by_cases e19 : op = 19
    case pos =>
      subst e19
      obtain rfl : d = 0 := Z4 (by decide)
      obtain rfl : c = 0 := Z3 (by decide)
      obtain rfl : b = 0 := Z2 (by decide)
      exact num19 bs A c0 a w hr hc0
    by_cases e20 : op = 20
    case pos =>
      subst e20
      obtain rfl : d = 0 := Z4 (by decide)
      exact num20 bs A c0 a b c w hr hc0
    by_cases e21 : op = 21
    case pos =>
      subst e21
      obtain rfl : d = 0 := Z4 (by decide)
      obtain rfl : c = 0 := Z3 (by decide)
      exact num21 bs A c0 a b w hr hc0
    by_cases e22 : op = 22
    case pos =>
      subst e22
      exact num22 bs A c0 a b c d w hr hc0
    by_cases e25 : op = 25
    case pos =>
      subst e25
      obtain rfl : d = 0 := Z4 (by decide)
      obtain rfl : c = 0 := Z3 (by decide)
      exact num25 bs A c0 a b w hr hc0
    have hbt : bodyB bs op a b c d = true := by unfold bodyB; rw [if_neg e2, if_neg e5, if_neg e18, if_neg e6, if_neg e7, if_neg e8, if_neg e9, if_neg e10, if_neg e11, if_neg e12, if_neg e14, if_neg e15, if_neg e16, if_neg e17, if_neg e19, if_neg e20, if_neg e21, if_neg e22, if_neg e25]
    rw [hbt]
    by_cases e3 : op = 3
    case pos =>
      subst e3
      obtain rfl : d = 0 := Z4 (by decide)
      obtain rfl : c = 0 := Z3 (by decide)
      obtain rfl : b = 0 := Z2 (by decide)
      exact num3 bs A c0 a w hr hc0
    by_cases e4 : op = 4
    case pos =>
      subst e4
      obtain rfl : d = 0 := Z4 (by decide)
      obtain rfl : c = 0 := Z3 (by decide)
      obtain rfl : b = 0 := Z2 (by decide)
      exact num4 bs A c0 a w hr hc0
    have h0 : ar op = 0 := by unfold ar; simp only [*, false_or, if_false, or_self]
    obtain rfl : d = 0 := Z4 (by omega)
    obtain rfl : c = 0 := Z3 (by omega)
    obtain rfl : b = 0 := Z2 (by omega)
    obtain rfl : a = 0 := Z1 (by omega)
    exact numd bs A c0 op w hr hc0 h0 e2 e5 e18 e6 e7 e8 e9 e10 e11 e12 e14 e15 e16 e17 e19 e20 e21 e22 e25
end Go.Proofs.Ytedghbjmhcgilaa.N
end
section
namespace Go.Proofs.Ytedghbjmhcgilaa.POpt
open Go.RowKit Go.Proofs.YtedghbjmhcgilaaW.PrintWords Go.Proofs.YtedghbjmhcgilaaW.PrintLast Go.Proofs.YtedghbjmhcgilaaW.PrintMore
def rgnumbers.f (l0_0:List (S30)) (a1_0:Int) (a1_1:Int) (a1_2:Int) (a1_3:Int) (a1_4:Int):Option (Bool):=some (N.numB l0_0 a1_0 a1_1 a1_2 a1_3 a1_4)
theorem rgnumbers.calls (A0_0:Option Addr) (c0_0:Nat) (l0_0:List (S30)) (a1_0:Int) (a1_1:Int) (a1_2:Int) (a1_3:Int) (a1_4:Int) (r:Bool) (w:World) (hr0_0:Kd.C k30 w A0_0 l0_0.length l0_0) (hc0_0:l0_0.length≤c0_0) (h:rgnumbers.f l0_0 a1_0 a1_1 a1_2 a1_3 a1_4=some r) :
  Calls Try.prog 52 #[.agg #[.slice A0_0 l0_0.length c0_0],.agg #[.int .i64 a1_0,.int .i64 a1_1,.int .i64 a1_2,.int .i64 a1_3,.int .i64 a1_4]] w fun e w'=>e=.returned (.bool r)∧Below w.heap.size w w':=by
 obtain rfl:N.numB l0_0 a1_0 a1_1 a1_2 a1_3 a1_4=r:=Option.some.inj h
 exact N.numB_calls l0_0 A0_0 c0_0 a1_0 a1_1 a1_2 a1_3 a1_4 w hr0_0 hc0_0
mutual
def rgenc.j0:Nat→Int→Bool→List (S30)→List (S35)→List (S35)→List (S37)→Option (Bool)
  | 0,_,_,_,_,_,_=>none
  | k+1,x5,x22,x239000,x240000,x240001,x240002=>if x22=true then (some false) else (rgenc.l0 k x5 0 x239000 x240000 x240001 x240002)
def rgenc.l0:Nat→Int→Int→List (S30)→List (S35)→List (S35)→List (S37)→Option (Bool)
  | 0,_,_,_,_,_,_=>none
  | k+1,x5,x6,x239000,x240000,x240001,x240002=>if x6 < x5 then (if 0≤x6 then (if x6 < (x240001.length:Int) then (if ((rdQ x240001 x6).f0) < 16 then (rgenc.j2 k x5 x6 true x239000 x240000 x240001 x240002 ((rdQ x240001 x6).f0) ((rdQ x240001 x6).f1) ((rdQ x240001 x6).f2) ((rdQ x240001 x6).f3) ((rdQ x240001 x6).f4)) else (if ((rdQ x240001 x6).f0) > 25 then (rgenc.j2 k x5 x6 true x239000 x240000 x240001 x240002 ((rdQ x240001 x6).f0) ((rdQ x240001 x6).f1) ((rdQ x240001 x6).f2) ((rdQ x240001 x6).f3) ((rdQ x240001 x6).f4)) else (if ((rdQ x240001 x6).f0)=24 then (if x6 < (wrap64 (x5 - 1)) then (rgenc.j2 k x5 x6 true x239000 x240000 x240001 x240002 ((rdQ x240001 x6).f0) ((rdQ x240001 x6).f1) ((rdQ x240001 x6).f2) ((rdQ x240001 x6).f3) ((rdQ x240001 x6).f4)) else ((rgnumbers.f x239000 ((rdQ x240001 x6).f0) ((rdQ x240001 x6).f1) ((rdQ x240001 x6).f2) ((rdQ x240001 x6).f3) ((rdQ x240001 x6).f4)).bind fun t243=>(rgenc.j2 k x5 x6 (!t243) x239000 x240000 x240001 x240002 ((rdQ x240001 x6).f0) ((rdQ x240001 x6).f1) ((rdQ x240001 x6).f2) ((rdQ x240001 x6).f3) ((rdQ x240001 x6).f4)))) else ((rgnumbers.f x239000 ((rdQ x240001 x6).f0) ((rdQ x240001 x6).f1) ((rdQ x240001 x6).f2) ((rdQ x240001 x6).f3) ((rdQ x240001 x6).f4)).bind fun t244=>(rgenc.j2 k x5 x6 (!t244) x239000 x240000 x240001 x240002 ((rdQ x240001 x6).f0) ((rdQ x240001 x6).f1) ((rdQ x240001 x6).f2) ((rdQ x240001 x6).f3) ((rdQ x240001 x6).f4)))))) else (none)) else (none)) else (some true)
def rgenc.j2:Nat→Int→Int→Bool→List (S30)→List (S35)→List (S35)→List (S37)→Int→Int→Int→Int→Int→Option (Bool)
  | 0,_,_,_,_,_,_,_,_,_,_,_,_=>none
  | k+1,x5,x6,x57,x239000,x240000,x240001,x240002,x243000,x243001,x243002,x243003,x243004=>if x57=true then (some false) else (if x243000=16 then (if x243002≤x6 then (some false) else (if x243002 ≥ x5 then (some false) else (rgenc.l0 k x5 (wrap64 (x6+1)) x239000 x240000 x240001 x240002))) else (rgenc.l0 k x5 (wrap64 (x6+1)) x239000 x240000 x240001 x240002))
end
def rgenc.f (k:Nat) (l0_0:List (S30)) (l1_0:List (S35)) (l1_1:List (S35)) (l1_2:List (S37)):Option (Bool):=if (l1_1.length:Int)=0 then (rgenc.j0 k (l1_1.length:Int) true l0_0 l1_0 l1_1 l1_2) else (if 0≤(wrap64 ((l1_1.length:Int) - 1)) then (if (wrap64 ((l1_1.length:Int) - 1)) < (l1_1.length:Int) then (rgenc.j0 k (l1_1.length:Int) (((rdQ l1_1 (wrap64 ((l1_1.length:Int) - 1))).f0) != 24) l0_0 l1_0 l1_1 l1_2) else (none)) else (none))
theorem rgenc.mono_l:∀ k,(∀ y0 y1 y2 y3 y4 y5,LeO (rgenc.j0 k y0 y1 y2 y3 y4 y5) (rgenc.j0 (k+1) y0 y1 y2 y3 y4 y5))∧(∀ y0 y1 y2 y3 y4 y5,LeO (rgenc.l0 k y0 y1 y2 y3 y4 y5) (rgenc.l0 (k+1) y0 y1 y2 y3 y4 y5))∧(∀ y0 y1 y2 y3 y4 y5 y6 y7 y8 y9 y10 y11,LeO (rgenc.j2 k y0 y1 y2 y3 y4 y5 y6 y7 y8 y9 y10 y11) (rgenc.j2 (k+1) y0 y1 y2 y3 y4 y5 y6 y7 y8 y9 y10 y11))
  | 0=>⟨fun _ _ _ _ _ _ r h=>by simp [rgenc.j0] at h,fun _ _ _ _ _ _ r h=>by simp [rgenc.l0] at h,fun _ _ _ _ _ _ _ _ _ _ _ _ r h=>by simp [rgenc.j2] at h⟩
  | k+1=>by
    obtain ⟨ih0,ih1,ih2⟩:=rgenc.mono_l k
    refine ⟨?_,?_,?_⟩
    · intro y0 y1 y2 y3 y4 y5
      unfold rgenc.j0
      repeat' first | (with_reducible exact ih1 _ _ _ _ _ _) | (with_reducible exact LeO.refl _) | (with_reducible refine LeO.ite ?_ ?_)
    · intro y0 y1 y2 y3 y4 y5
      unfold rgenc.l0
      repeat' first | (with_reducible exact ih2 _ _ _ _ _ _ _ _ _ _ _ _) | (with_reducible exact LeO.refl _) | (with_reducible refine LeO.ite ?_ ?_) | (with_reducible refine LeO.bind ?_ (fun _=>?_))
    · intro y0 y1 y2 y3 y4 y5 y6 y7 y8 y9 y10 y11
      unfold rgenc.j2
      repeat' first | (with_reducible exact ih1 _ _ _ _ _ _) | (with_reducible exact LeO.refl _) | (with_reducible refine LeO.ite ?_ ?_)
theorem rgenc.mono:∀ a0 a1 a2 a3 k,LeO (rgenc.f k a0 a1 a2 a3) (rgenc.f (k+1) a0 a1 a2 a3):=by
  intro a0 a1 a2 a3 k
  obtain ⟨ih0,ih1,ih2⟩:=rgenc.mono_l k
  unfold rgenc.f
  repeat' first | (with_reducible exact ih0 _ _ _ _ _ _) | (with_reducible exact LeO.refl _) | (with_reducible refine LeO.ite ?_ ?_)
set_option maxHeartbeats 8000000 in
set_option maxRecDepth 100000 in
theorem rgenc.calls (k:Nat) (aq:Option Addr) (av:Nat) (al:List (S30)) (ar:Option Addr) (aw:Nat) (am:List (S35)) (aC:Option Addr) (ax:Nat) (aa:List (S35)) (au:Option Addr) (ay:Nat) (an:List (S37)) (r:Bool) (w:World) (bi:Kd.C k30 w aq al.length al) (bh:al.length≤av) (bT:Kd.C k35 w ar am.length am) (bP:am.length≤aw) (bj:Kd.C k35 w aC aa.length aa) (bQ:aa.length≤ax) (bU:Kd.C k37 w au an.length an) (bR:an.length≤ay) (h:rgenc.f k al am aa an=some r) :
    Calls Try.prog 32 #[.agg #[.slice aq al.length av],.agg #[.slice ar am.length aw,.slice aC aa.length ax,.slice au an.length ay]] w fun e w'=>e=.returned (.bool r)∧Below w.heap.size w w':=by
 have fw:=Try.underlying24
 have fx:=Try.underlying30
 have fy:=Try.underlying35
 have be:=Aside0.mk bi
 have bd:=Aside0.mk bh
 clear bi bh
 clear bT bP
 have bf:=Aside0.mk bj
 clear bj bQ
 clear bU bR
 have HB:=Aside0.mk (Below.refl w.heap.size w)
 have H:(if (aa.length:Int)=0 then (rgenc.j0 k (aa.length:Int) true al am aa an) else (if 0≤(wrap64 ((aa.length:Int) - 1)) then (if (wrap64 ((aa.length:Int) - 1)) < (aa.length:Int) then (rgenc.j0 k (aa.length:Int) (((rdQ aa (wrap64 ((aa.length:Int) - 1))).f0) != 24) al am aa an) else (none)) else (none)))=some r:=h
 clear h
 have ed:=Aside0.mk H
 clear H
 go_enter Try.func32,Try.ntmps32
 go_upto_region 2 with (first | ((with_reducible refine gate_dst (N:=2) rfl ?_);refine box_event ?hg (N:=2) ?hd (cs:=#[.slice aq al.length av]) (t:=24) ?hr ?_;(case hd=>rfl);(case hg=>rfl);(case hr=>(go_simp;done));intro az hg w4 hbox hb;have ae:=Aside0.mk hbox;have en:=qz HB hg;have el:=qz HB hg;replace HB:=qs HB hb;clear hb hbox hg)|((with_reducible refine gate_dst (N:=3) rfl ?_);refine box_event ?hg (N:=3) ?hd (cs:=#[.slice ar am.length aw,.slice aC aa.length ax,.slice au an.length ay]) (t:=30) ?hr ?_;(case hd=>rfl);(case hg=>rfl);(case hr=>(go_simp;done));intro aA hg w5 hbox hb;have ah:=Aside0.mk hbox;have eo:=qz HB hg;have em:=qz HB hg;replace HB:=qs HB hb;have aj:=qn ae hg;have ak:=qN ae hg;replace ae:=qb ae hb;clear hb hbox hg;have fu:=ak.out;have fv:=aj.out;refine qc3 ah fun bn bo bp bq br bs=>?_))
 (try simp only [Act.put,s1,s2,s3])
 go_cut [22] (fun fB wc=>∃ (kq:Nat) (aB:Bool),fB=.bool aB∧Aside0 (rgenc.j0 kq (aa.length:Int) aB al am aa an=some r)∧Aside0 (kq≤k)∧Aside0 (wc.heap[az]?=some (.cells #[(.slice aq al.length av)] 24 (0,0)))∧Aside0 (wc.heap[aA]?=some (.cells #[(.slice ar am.length aw),(.slice aC aa.length ax),(.slice au an.length ay)] 30 (0,0)))∧Aside0 (Below w.heap.size w wc))
 case first =>
  have H:=ed.out
  clear ed
  by_cases c8:(aa.length:Int)=0
  ·rw [if_pos c8] at H
   obtain ⟨ee,ef⟩:=cBt c8
   clear c8
   have H':=Aside0.mk H
   clear H
   go_wp2
   go_meet
   case rel=>exact ⟨_,(true),rfl,H',⟨by omega⟩,ae,ah,HB⟩
  rw [if_neg c8] at H
  obtain ⟨ee,ef⟩:=cBf c8
  have ft:¬ (aa=[]):=fun h_=>c8 (by rw [h_];rfl)
  obtain ⟨ei,bS⟩:∃ j_:Int,(wrap64 ((aa.length:Int) - 1))=j_:=⟨_,rfl⟩
  rw [bS] at H
  have et:(IntKind.i64.wrap ((aa.length:Int) - 1))=ei:=(i64_w _).trans bS
  replace H:=iNd H
  obtain ⟨er,H⟩:=H
  replace H:=iNd H
  obtain ⟨es,H⟩:=H
  have H':=Aside0.mk H
  clear H
  have eu:=ak.out
  have eS:=aj.out
  refine qc3 ah fun ca cb cc cZ da db=>?_
  obtain ⟨eq,eg,fz,fA,dY,dZ,ea,eb,ec⟩:=rd35 bf HB (ei)
  cases eg
  go_wp2
  go_meet
  case rel=>exact ⟨_,((((rdQ aa (ei)).f0) != 24)),rfl,H',⟨by omega⟩,ae,ah,HB⟩
 clear ed
 clear bn bo bp bq br bs
 obtain ⟨kq,aB,rfl,HA,aG,ae,ah,HB⟩:=hcut
 obtain _ | fq:=kq
 ·exact absurd HA.out (by simp [rgenc.j0])
 have H:=HA.out
 clear HA
 simp only [rgenc.j0] at H
 by_cases bY:aB=true
 ·subst bY
  replace H:=iP H
  obtain rfl:=Option.some.inj H
  go_wp2
  go_ret
  exact ⟨by (rfl),HB.out⟩
 replace bY:=Bool.eq_false_iff.mpr bY
 subst bY
 replace H:=iF H
 have H':=Aside0.mk H
 clear H
 go_wp2
 go_loopg [6] fq (fun kq v6 w'=>∃ (ab:Int),v6=.int .i64 ab∧Aside0 (rgenc.l0 kq (aa.length:Int) ab al am aa an=some r)∧Aside0 (kq≤fq)∧Aside0 (w'.heap[az]?=some (.cells #[(.slice aq al.length av)] 24 (0,0)))∧Aside0 (w'.heap[aA]?=some (.cells #[(.slice ar am.length aw),(.slice aC aa.length ax),(.slice au an.length ay)] 30 (0,0)))∧Aside0 (Below w.heap.size w w'))
 case atStart=>exact ⟨(0),rfl,H',⟨Nat.le_refl _⟩,ae,ah,HB⟩
 clear H'
 obtain ⟨ab,rfl,HA,aH,ae,ah,HB⟩:=hrel
 obtain _ | k2:=gk
 ·exact absurd HA.out (by simp [rgenc.l0])
 have H:=HA.out
 clear HA
 simp only [rgenc.l0] at H
 by_cases bt:ab < (aa.length:Int)
 ·rw [if_pos bt] at H
  have bg:=decide_eq_true bt
  clear bt
  replace H:=iNd H
  obtain ⟨bC,H⟩:=H
  replace H:=iNd H
  obtain ⟨bD,H⟩:=H
  have bm:=Aside0.mk H
  clear H
  have ev:=ak.out
  have eT:=aj.out
  refine qc3 ah fun aI aJ aK aQ aR aS=>?_
  obtain ⟨aD,eh,ej,ek,aY,aZ,ba,bb,bc⟩:=rd35 bf HB ab
  cases eh
  go_upto_region 8 with (((with_reducible refine gate_dst (N:=7) rfl ?_);refine box_event ?hg (N:=7) ?hd (cs:=#[.int .i64 0,.int .i64 0,.int .i64 0,.int .i64 0,.int .i64 0]) (t:=35) ?hr ?_;(case hd=>rfl);(case hg=>rfl);(case hr=>(go_simp;done));intro aE hg fD hbox hb;have ai:=Aside0.mk hbox;have ep:=qz HB hg;have ao:=qz HB hg;replace HB:=qs HB hb;have ac:=qn ae hg;have af:=qN ae hg;replace ae:=qb ae hb;have ad:=qn ah hg;have ag:=qN ah hg;replace ah:=qb ah hb;clear hb hbox hg;have ew:=af.out;have eU:=ac.out;have ex:=ag.out;have eV:=ad.out;refine qc5 ai fun aL aM aN aO aP aT aU aV aW aX=>?_))
  (try simp only [Act.put,s1,s2,s3])
  go_cut [57] (fun fC wc=>∃ (kq:Nat) (ap:Bool),fC=.bool ap∧Aside0 (rgenc.j2 kq (aa.length:Int) ab ap al am aa an ((rdQ aa ab).f0) ((rdQ aa ab).f1) ((rdQ aa ab).f2) ((rdQ aa ab).f3) ((rdQ aa ab).f4)=some r)∧Aside0 (kq≤k2)∧Aside0 (wc.heap[az]?=some (.cells #[(.slice aq al.length av)] 24 (0,0)))∧Aside0 (wc.heap[aA]?=some (.cells #[(.slice ar am.length aw),(.slice (some aD) aa.length ax),(.slice au an.length ay)] 30 (0,0)))∧Aside0 (wc.heap[aE]?=some (.cells #[.int .i64 ((rdQ aa ab).f0),.int .i64 ((rdQ aa ab).f1),.int .i64 ((rdQ aa ab).f2),.int .i64 ((rdQ aa ab).f3),.int .i64 ((rdQ aa ab).f4)] 35 (0,0)))∧Aside0 (Below w.heap.size w wc))
  case first =>
   have H:=bm.out
   clear bm
   by_cases bu:((rdQ aa ab).f0) < 16
   ·rw [if_pos bu] at H
    have bE:=decide_eq_true bu
    clear bu
    have H':=Aside0.mk H
    clear H
    have ey:=af.out
    have eW:=ac.out
    have ez:=ag.out
    have eX:=ad.out
    refine qc5 ai fun cd ce cf cg ch dc dd de df dg=>?_
    go_wp2
    go_meet
    case rel=>exact ⟨_,(true),rfl,H',⟨by have:=aG.out;have:=aH.out;(omega)⟩,zb ae ac.out kb5,zb ah ad.out kb5,⟨by refine blk_put (cs:=#[.int .i64 ((rdQ aa ab).f0),.int .i64 ((rdQ aa ab).f1),.int .i64 ((rdQ aa ab).f2),.int .i64 ((rdQ aa ab).f3),.int .i64 0]) ?_ 4 _ rfl;refine blk_put (cs:=#[.int .i64 ((rdQ aa ab).f0),.int .i64 ((rdQ aa ab).f1),.int .i64 ((rdQ aa ab).f2),.int .i64 0,.int .i64 0]) ?_ 3 _ rfl;refine blk_put (cs:=#[.int .i64 ((rdQ aa ab).f0),.int .i64 ((rdQ aa ab).f1),.int .i64 0,.int .i64 0,.int .i64 0]) ?_ 2 _ rfl;refine blk_put (cs:=#[.int .i64 ((rdQ aa ab).f0),.int .i64 0,.int .i64 0,.int .i64 0,.int .i64 0]) ?_ 1 _ rfl;refine blk_put (cs:=#[.int .i64 0,.int .i64 0,.int .i64 0,.int .i64 0,.int .i64 0]) ?_ 0 _ rfl;exact ai.out⟩,⟨by repeat ((with_reducible first | exact HB.out | refine b_st ?_ ao.out))⟩⟩
   rw [if_neg bu] at H
   have bE:=decide_eq_false bu
   clear bu
   by_cases bv:((rdQ aa ab).f0) > 25
   ·rw [if_pos bv] at H
    have bF:decide (25 < ((rdQ aa ab).f0))=true:=decide_eq_true bv
    clear bv
    have H':=Aside0.mk H
    clear H
    have eA:=af.out
    have eY:=ac.out
    have eB:=ag.out
    have eZ:=ad.out
    refine qc5 ai fun ci cj ck cl cm dh di dj dk dl=>?_
    go_wp2
    go_meet
    case rel=>exact ⟨_,(true),rfl,H',⟨by have:=aG.out;have:=aH.out;(omega)⟩,zb ae ac.out kb5,zb ah ad.out kb5,⟨by refine blk_put (cs:=#[.int .i64 ((rdQ aa ab).f0),.int .i64 ((rdQ aa ab).f1),.int .i64 ((rdQ aa ab).f2),.int .i64 ((rdQ aa ab).f3),.int .i64 0]) ?_ 4 _ rfl;refine blk_put (cs:=#[.int .i64 ((rdQ aa ab).f0),.int .i64 ((rdQ aa ab).f1),.int .i64 ((rdQ aa ab).f2),.int .i64 0,.int .i64 0]) ?_ 3 _ rfl;refine blk_put (cs:=#[.int .i64 ((rdQ aa ab).f0),.int .i64 ((rdQ aa ab).f1),.int .i64 0,.int .i64 0,.int .i64 0]) ?_ 2 _ rfl;refine blk_put (cs:=#[.int .i64 ((rdQ aa ab).f0),.int .i64 0,.int .i64 0,.int .i64 0,.int .i64 0]) ?_ 1 _ rfl;refine blk_put (cs:=#[.int .i64 0,.int .i64 0,.int .i64 0,.int .i64 0,.int .i64 0]) ?_ 0 _ rfl;exact ai.out⟩,⟨by repeat ((with_reducible first | exact HB.out | refine b_st ?_ ao.out))⟩⟩
   rw [if_neg bv] at H
   have bF:decide (25 < ((rdQ aa ab).f0))=false:=decide_eq_false bv
   clear bv
   by_cases bG:((rdQ aa ab).f0)=24
   ·rw [if_pos bG] at H
    obtain ⟨bH,bI⟩:=cBt bG
    clear bG
    by_cases bw:ab < (wrap64 ((aa.length:Int) - 1))
    ·rw [if_pos bw] at H
     have bJ:=decide_eq_true bw
     clear bw
     have H':=Aside0.mk H
     clear H
     have eC:=af.out
     have fa:=ac.out
     have eD:=ag.out
     have fb:=ad.out
     refine qc5 ai fun cn co cp cq cr dm dn dp dq dr=>?_
     go_wp2
     go_meet
     case rel=>exact ⟨_,(true),rfl,H',⟨by have:=aG.out;have:=aH.out;(omega)⟩,zb ae ac.out kb5,zb ah ad.out kb5,⟨by refine blk_put (cs:=#[.int .i64 ((rdQ aa ab).f0),.int .i64 ((rdQ aa ab).f1),.int .i64 ((rdQ aa ab).f2),.int .i64 ((rdQ aa ab).f3),.int .i64 0]) ?_ 4 _ rfl;refine blk_put (cs:=#[.int .i64 ((rdQ aa ab).f0),.int .i64 ((rdQ aa ab).f1),.int .i64 ((rdQ aa ab).f2),.int .i64 0,.int .i64 0]) ?_ 3 _ rfl;refine blk_put (cs:=#[.int .i64 ((rdQ aa ab).f0),.int .i64 ((rdQ aa ab).f1),.int .i64 0,.int .i64 0,.int .i64 0]) ?_ 2 _ rfl;refine blk_put (cs:=#[.int .i64 ((rdQ aa ab).f0),.int .i64 0,.int .i64 0,.int .i64 0,.int .i64 0]) ?_ 1 _ rfl;refine blk_put (cs:=#[.int .i64 0,.int .i64 0,.int .i64 0,.int .i64 0,.int .i64 0]) ?_ 0 _ rfl;exact ai.out⟩,⟨by repeat ((with_reducible first | exact HB.out | refine b_st ?_ ao.out))⟩⟩
    rw [if_neg bw] at H
    have bJ:=decide_eq_false bw
    clear bw
    replace H:=Option.bind_eq_some_iff.mp H
    obtain ⟨bW,bA,H⟩:=H
    try dsimp only at H
    have fr:=Aside0.mk bA
    clear bA
    have H':=Aside0.mk H
    clear H
    have eE:=af.out
    have fc:=ac.out
    have eF:=ag.out
    have fd:=ad.out
    refine qc5 ai fun ct cu cv cw cx ds dt du dv dw=>?_
    have eG:=aj.out
    have fe:=ak.out
    refine qc1 ae fun cy dx=>?_
    go_wp2_with (first | (go_at_call 52;(with_reducible refine (rgnumbers.calls _ _ al ((rdQ aa ab).f0) ((rdQ aa ab).f1) ((rdQ aa ab).f2) ((rdQ aa ab).f3) ((rdQ aa ab).f4) bW _ ?bk ?bl fr.out).mono ?_);(case bk=>exact Kd.C_below be.out (by repeat ((with_reducible first | exact HB.out | refine b_st ?_ ao.out))));(case bl=>exact bd.out);rintro e fE ⟨rfl,hb⟩;replace ae:=Aside0.mk (blk_below (g:=az) (o:=.cells #[.slice aq al.length av] 24 (0,0)) (by refine blk_far ?_ ac.out _;refine blk_far ?_ ac.out _;refine blk_far ?_ ac.out _;refine blk_far ?_ ac.out _;refine blk_far ?_ ac.out _;exact ae.out) hb);replace ah:=Aside0.mk (blk_below (g:=aA) (o:=.cells #[.slice ar am.length aw,.slice (some aD) aa.length ax,.slice au an.length ay] 30 (0,0)) (by refine blk_far ?_ ad.out _;refine blk_far ?_ ad.out _;refine blk_far ?_ ad.out _;refine blk_far ?_ ad.out _;refine blk_far ?_ ad.out _;exact ah.out) hb);replace ai:=Aside0.mk (blk_below (g:=aE) (o:=.cells #[.int .i64 ((rdQ aa ab).f0),.int .i64 ((rdQ aa ab).f1),.int .i64 ((rdQ aa ab).f2),.int .i64 ((rdQ aa ab).f3),.int .i64 ((rdQ aa ab).f4)] 35 (0,0)) (by refine blk_put (cs:=#[.int .i64 ((rdQ aa ab).f0),.int .i64 ((rdQ aa ab).f1),.int .i64 ((rdQ aa ab).f2),.int .i64 ((rdQ aa ab).f3),.int .i64 0]) ?_ 4 _ rfl;refine blk_put (cs:=#[.int .i64 ((rdQ aa ab).f0),.int .i64 ((rdQ aa ab).f1),.int .i64 ((rdQ aa ab).f2),.int .i64 0,.int .i64 0]) ?_ 3 _ rfl;refine blk_put (cs:=#[.int .i64 ((rdQ aa ab).f0),.int .i64 ((rdQ aa ab).f1),.int .i64 0,.int .i64 0,.int .i64 0]) ?_ 2 _ rfl;refine blk_put (cs:=#[.int .i64 ((rdQ aa ab).f0),.int .i64 0,.int .i64 0,.int .i64 0,.int .i64 0]) ?_ 1 _ rfl;refine blk_put (cs:=#[.int .i64 0,.int .i64 0,.int .i64 0,.int .i64 0,.int .i64 0]) ?_ 0 _ rfl;exact ai.out) hb);replace HB:=Aside0.mk (below_step (by repeat ((with_reducible first | exact HB.out | refine b_st ?_ ao.out))) hb);(try clear hb)))
    go_meet
    case rel=>exact ⟨_,(!bW),rfl,H',⟨by have:=aG.out;have:=aH.out;(omega)⟩,ae,ah,ai,HB⟩
   rw [if_neg bG] at H
   obtain ⟨bH,bI⟩:=cBf bG
   replace H:=Option.bind_eq_some_iff.mp H
   obtain ⟨bX,bB,H⟩:=H
   try dsimp only at H
   have fs:=Aside0.mk bB
   clear bB
   have H':=Aside0.mk H
   clear H
   have eH:=af.out
   have ff:=ac.out
   have eI:=ag.out
   have fg:=ad.out
   refine qc5 ai fun cz cA cB cC cD dy dz dA dB dC=>?_
   have eJ:=aj.out
   have fh:=ak.out
   refine qc1 ae fun cE dD=>?_
   go_wp2_with (first | (go_at_call 52;(with_reducible refine (rgnumbers.calls _ _ al ((rdQ aa ab).f0) ((rdQ aa ab).f1) ((rdQ aa ab).f2) ((rdQ aa ab).f3) ((rdQ aa ab).f4) bX _ ?bk ?bl fs.out).mono ?_);(case bk=>exact Kd.C_below be.out (by repeat ((with_reducible first | exact HB.out | refine b_st ?_ ao.out))));(case bl=>exact bd.out);rintro e fF ⟨rfl,hb⟩;replace ae:=Aside0.mk (blk_below (g:=az) (o:=.cells #[.slice aq al.length av] 24 (0,0)) (by refine blk_far ?_ ac.out _;refine blk_far ?_ ac.out _;refine blk_far ?_ ac.out _;refine blk_far ?_ ac.out _;refine blk_far ?_ ac.out _;exact ae.out) hb);replace ah:=Aside0.mk (blk_below (g:=aA) (o:=.cells #[.slice ar am.length aw,.slice (some aD) aa.length ax,.slice au an.length ay] 30 (0,0)) (by refine blk_far ?_ ad.out _;refine blk_far ?_ ad.out _;refine blk_far ?_ ad.out _;refine blk_far ?_ ad.out _;refine blk_far ?_ ad.out _;exact ah.out) hb);replace ai:=Aside0.mk (blk_below (g:=aE) (o:=.cells #[.int .i64 ((rdQ aa ab).f0),.int .i64 ((rdQ aa ab).f1),.int .i64 ((rdQ aa ab).f2),.int .i64 ((rdQ aa ab).f3),.int .i64 ((rdQ aa ab).f4)] 35 (0,0)) (by refine blk_put (cs:=#[.int .i64 ((rdQ aa ab).f0),.int .i64 ((rdQ aa ab).f1),.int .i64 ((rdQ aa ab).f2),.int .i64 ((rdQ aa ab).f3),.int .i64 0]) ?_ 4 _ rfl;refine blk_put (cs:=#[.int .i64 ((rdQ aa ab).f0),.int .i64 ((rdQ aa ab).f1),.int .i64 ((rdQ aa ab).f2),.int .i64 0,.int .i64 0]) ?_ 3 _ rfl;refine blk_put (cs:=#[.int .i64 ((rdQ aa ab).f0),.int .i64 ((rdQ aa ab).f1),.int .i64 0,.int .i64 0,.int .i64 0]) ?_ 2 _ rfl;refine blk_put (cs:=#[.int .i64 ((rdQ aa ab).f0),.int .i64 0,.int .i64 0,.int .i64 0,.int .i64 0]) ?_ 1 _ rfl;refine blk_put (cs:=#[.int .i64 0,.int .i64 0,.int .i64 0,.int .i64 0,.int .i64 0]) ?_ 0 _ rfl;exact ai.out) hb);replace HB:=Aside0.mk (below_step (by repeat ((with_reducible first | exact HB.out | refine b_st ?_ ao.out))) hb);(try clear hb)))
   go_meet
   case rel=>exact ⟨_,(!bX),rfl,H',⟨by have:=aG.out;have:=aH.out;(omega)⟩,ae,ah,ai,HB⟩
  clear bm
  clear bg bC bD aI aJ aK aL aM aN aO aP aQ aR aS aT aU aV aW aX aY aZ ba bb bc ej ek
  obtain ⟨kq,ap,rfl,HA,aF,ae,ah,ai,HB⟩:=hcut
  obtain _ | bV:=kq
  ·exact absurd HA.out (by simp [rgenc.j2])
  have H:=HA.out
  clear HA
  simp only [rgenc.j2] at H
  by_cases bZ:ap=true
  ·subst bZ
   replace H:=iP H
   obtain rfl:=Option.some.inj H
   go_wp2
   go_ret
   exact ⟨by (rfl),HB.out⟩
  replace bZ:=Bool.eq_false_iff.mpr bZ
  subst bZ
  replace H:=iF H
  by_cases bK:((rdQ aa ab).f0)=16
  ·rw [if_pos bK] at H
   obtain ⟨bL,bM⟩:=cBt bK
   clear bK
   by_cases bx:((rdQ aa ab).f2)≤ab
   ·rw [if_pos bx] at H
    have bN:=decide_eq_true bx
    clear bx
    obtain rfl:=Option.some.inj H
    have eK:=af.out
    have fi:=ac.out
    have eL:=ag.out
    have fj:=ad.out
    refine qc5 ai fun cF cG cH cI cJ dE dF dG dH dI=>?_
    go_wp2
    go_ret
    exact ⟨by (rfl),HB.out⟩
   rw [if_neg bx] at H
   have bN:=decide_eq_false bx
   clear bx
   by_cases bz:((rdQ aa ab).f2) ≥ (aa.length:Int)
   ·rw [if_pos bz] at H
    have bO:decide ((aa.length:Int)≤((rdQ aa ab).f2))=true:=decide_eq_true bz
    clear bz
    obtain rfl:=Option.some.inj H
    have eM:=af.out
    have fk:=ac.out
    have eN:=ag.out
    have fl:=ad.out
    refine qc5 ai fun cK cL cM cN cO dJ dK dL dM dN=>?_
    go_wp2
    go_ret
    exact ⟨by (rfl),HB.out⟩
   rw [if_neg bz] at H
   have bO:decide ((aa.length:Int)≤((rdQ aa ab).f2))=false:=decide_eq_false bz
   clear bz
   have H':=Aside0.mk H
   clear H
   have eO:=af.out
   have fm:=ac.out
   have eP:=ag.out
   have fn:=ad.out
   refine qc5 ai fun cP cQ cR cS cT dO dP dQ dR dS=>?_
   go_wp2
   go_roundg bV
   case measure=>have:=aG.out;have:=aH.out;have:=aF.out;omega
   case rel=>exact ⟨(wrap64 (ab+1)),rfl,H',⟨by have:=aG.out;have:=aH.out;have:=aF.out;omega⟩,ae,ah,HB⟩
  rw [if_neg bK] at H
  obtain ⟨bL,bM⟩:=cBf bK
  have H':=Aside0.mk H
  clear H
  have eQ:=af.out
  have fo:=ac.out
  have eR:=ag.out
  have fp:=ad.out
  refine qc5 ai fun cU cV cW cX cY dT dU dV dW dX=>?_
  go_wp2
  go_roundg bV
  case measure=>have:=aG.out;have:=aH.out;have:=aF.out;omega
  case rel=>exact ⟨(wrap64 (ab+1)),rfl,H',⟨by have:=aG.out;have:=aH.out;have:=aF.out;omega⟩,ae,ah,HB⟩
 rw [if_neg bt] at H
 have bg:=decide_eq_false bt
 clear bt
 obtain rfl:=Option.some.inj H
 go_wp2
 go_ret
 exact ⟨by (rfl),HB.out⟩
end Go.Proofs.Ytedghbjmhcgilaa.POpt
end
section
namespace Go.Proofs.Ytedghbjmhcgilaa.A
open Go.RowKit Go.Proofs.YtedghbjmhcgilaaW.PrintWords Go.Proofs.YtedghbjmhcgilaaW.PrintLast Go.Proofs.YtedghbjmhcgilaaW.PrintMore
open Go.Proofs.Ytedghbjmhcgilaa.POpt
def succs (l0:List S35) (l1:List S37) (i:Nat):List Int :=
 if (l0.getD i z35).f0=4 then [(l0.getD i z35).f1] else if (l0.getD i z35).f0=3 then (l0.getD i z35).f1 :: l1.map S37.f1
 else if (l0.getD i z35).f0=2∨(l0.getD i z35).f0=16 then [(i:Int)+1,(l0.getD i z35).f2] else if (l0.getD i z35).f0=24 then [] else [(i:Int)+1]
def marked (x:List Bool) (i:Nat):Prop:=x.getD i false=true
theorem marked_set {x:List Bool} {a i:Nat} (ha:a < x.length):marked (x.set a true) i↔i=a∨marked x i:=by
 unfold marked
 rw [List.getD_eq_getElem?_getD,List.getD_eq_getElem?_getD,List.getElem?_set]
 by_cases h:a=i
 ·subst h;simp [ha]
 ·simp [h,Ne.symm h]
def Closed (l0:List S35) (l1:List S37) (S:Nat→Prop):Prop:=S 0∧∀ i,i < l0.length→S i→∀ s ∈ succs l0 l1 i,0≤s→s < l0.length→S s.toNat
structure RInv (l0:List S35) (l1:List S37) (x5:List Bool) (x6:List Int):Prop where
 len:x5.length=l0.length
 zero:0 < l0.length→marked x5 0∨(0:Int) ∈ x6
 closed:∀ i,i < l0.length→marked x5 i→∀ s ∈ succs l0 l1 i,0≤s→s < l0.length→marked x5 s.toNat∨s ∈ x6
 sound:∀ S,Closed l0 l1 S→(∀ i,i < l0.length→marked x5 i→S i)∧(∀ s ∈ x6,0≤s→s < l0.length→S s.toNat)
structure Reached (l0:List S35) (l1:List S37) (r:List Bool):Prop where
 len:r.length=l0.length
 zero:0 < l0.length→marked r 0
 closed:∀ i,i < l0.length→marked r i→∀ s ∈ succs l0 l1 i,0≤s→s < l0.length→marked r s.toNat
 sound:∀ S,Closed l0 l1 S→∀ i,i < l0.length→marked r i→S i
section
variable {l0:List S35} {l1:List S37}
theorem RInv.skip {x5:List Bool} {y:List Int} {a:Int} (h:RInv l0 l1 x5 (y ++ [a])) (ha:a < 0∨a ≥ l0.length∨marked x5 a.toNat):RInv l0 l1 x5 y:=by
 refine ⟨h.len,fun h0=>?_,fun i hi hm s hs s0 s1=>?_,fun S hS=>⟨(h.sound S hS).1,fun s hs=>(h.sound S hS).2 s (by simp [hs])⟩⟩
 ·rcases h.zero h0 with q | q
  ·exact .inl q
  ·rcases List.mem_append.1 q with q | q
   ·exact .inr q
   ·simp only [List.mem_singleton] at q
    subst q
    rcases ha with ha | ha | ha
    ·omega
    ·omega
    ·exact .inl ha
 ·rcases h.closed i hi hm s hs s0 s1 with q | q
  ·exact .inl q
  ·rcases List.mem_append.1 q with q | q
   ·exact .inr q
   ·simp only [List.mem_singleton] at q
    subst q
    rcases ha with ha | ha | ha
    ·omega
    ·omega
    ·exact .inl ha
theorem RInv.take {x5:List Bool} {y L:List Int} {a:Int} (h:RInv l0 l1 x5 (y ++ [a])) (h0:0≤a) (h1:a < l0.length) (hL:∀ s,s ∈ L↔s ∈ succs l0 l1 a.toNat):RInv l0 l1 (x5.set a.toNat true) (y ++ L):=by
 have hal:a.toNat < x5.length:=by rw [h.len];omega
 refine ⟨by rw [List.length_set];exact h.len,fun hz=>?_,fun i hi hm s hs s0 s1=>?_,fun S hS=>⟨fun i hi hm=>?_,fun s hs s0 s1=>?_⟩⟩
 ·rcases h.zero hz with q | q
  ·exact .inl ((marked_set hal).2 (.inr q))
  ·rcases List.mem_append.1 q with q | q
   ·exact .inr (List.mem_append_left _ q)
   ·simp only [List.mem_singleton] at q
    subst q
    exact .inl ((marked_set hal).2 (.inl rfl))
 ·rcases (marked_set hal).1 hm with e | q
  ·subst e
   exact .inr (List.mem_append_right _ ((hL s).2 hs))
  ·rcases h.closed i hi q s hs s0 s1 with q | q
   ·exact .inl ((marked_set hal).2 (.inr q))
   ·rcases List.mem_append.1 q with q | q
    ·exact .inr (List.mem_append_left _ q)
    ·simp only [List.mem_singleton] at q
     subst q
     exact .inl ((marked_set hal).2 (.inl rfl))
 ·rcases (marked_set hal).1 hm with e | q
  ·rw [e];exact (h.sound S hS).2 a (by simp) h0 h1
  ·exact (h.sound S hS).1 i hi q
 ·rcases List.mem_append.1 hs with q | q
  ·exact (h.sound S hS).2 s (by simp [q]) s0 s1
  ·exact hS.2 a.toNat (by omega) ((h.sound S hS).2 a (by simp) h0 h1) s ((hL s).1 q) s0 s1
theorem RInv.done {x5:List Bool} (h:RInv l0 l1 x5 []):Reached l0 l1 x5 :=
 ⟨h.len,fun h0=>(h.zero h0).resolve_right (by simp),fun i hi hm s hs s0 s1=>(h.closed i hi hm s hs s0 s1).resolve_right (by simp),fun S hS=>(h.sound S hS).1⟩
theorem wrap_in {x:Int} (h:-9223372036854775808≤x∧x≤9223372036854775807):wrap64 x=x:=by unfold wrap64;omega
theorem rows_pushed (hm:l1.length < 9223372036854775807):∀ (k:Nat) (x5:List Bool) (x6:List Int) (j:Nat) (r:List Bool),j≤l1.length→opt_reached.l1 k l0 l1 x5 x6 l1 (l1.length:Int) (j:Int)=some r →
  x6.length≤17592186044416→∃ k',k' < k∧opt_reached.l0 k' l0 l1 x5 (x6 ++ (l1.drop j).map S37.f1)=some r∧(x6 ++ (l1.drop j).map S37.f1).length≤17592186044416:=by
 intro k
 induction k with
 | zero=>intro x5 x6 j r hj h;simp [opt_reached.l1] at h
 | succ k ih =>
  intro x5 x6 j r hj h hl6
  rw [opt_reached.l1] at h
  by_cases hlt:(j:Int) < (l1.length:Int)
  ·rw [if_pos hlt,if_pos (by omega),if_pos hlt] at h
   split at h
   ·rw [show wrap64 ((j:Int)+1)=((j+1:Nat):Int) by rw [wrap_in (by omega)];omega] at h
    obtain ⟨k',h1,h2,h3⟩:=ih _ _ (j+1) r (by omega) h (by simp;omega)
    have hjl:j < l1.length:=by omega
    have e:(l1.drop j).map S37.f1=[(rdR l1 (j:Int)).f1] ++ (l1.drop (j+1)).map S37.f1:=by
     rw [List.drop_eq_getElem_cons hjl,List.map_cons];simp [rdR,hjl]
    refine ⟨k',by omega,?_,?_⟩
    ·rw [e,← List.append_assoc];exact h2
    ·rw [e,← List.append_assoc];exact h3
   ·cases h
  ·rw [if_neg hlt] at h
   have:j=l1.length:=by omega
   subst this
   exact ⟨k,by omega,by simpa using h,by simpa using hl6⟩
theorem reached_partial (hn:l0.length≤281474976710656) (hm:l1.length < 9223372036854775807):∀ (k:Nat) (x5:List Bool) (x6:List Int) (r:List Bool),opt_reached.l0 k l0 l1 x5 x6=some r→x6.length≤17592186044416→RInv l0 l1 x5 x6→Reached l0 l1 r:=by
 intro k
 induction k using Nat.strongRecOn with
 | _ k ih =>
  intro x5 x6 r h hl6 hI
  cases k with
  | zero=>simp [opt_reached.l0] at h
  | succ k =>
   rw [opt_reached.l0] at h
   by_cases h6:(x6.length:Int) > 0
   ·rw [if_pos h6] at h
    split at h
    case isFalse=>cases h
    split at h
    case isFalse=>cases h
    split at h
    case isFalse=>cases h
    rename_i g1 g2 g3
    simp only [Option.bind_some] at h
    obtain ⟨p,hp⟩:∃ p:Nat,wrap64 ((x6.length:Int) - 1)=(p:Int):=⟨_,(Int.toNat_of_nonneg g1).symm⟩
    rw [hp] at h g1 g2 g3
    have hpl:p < x6.length:=by omega
    by_cases hlast:p+1=x6.length
    case neg =>
     exfalso
     unfold wrap64 at hp
     omega
    have hsp:x6=x6.take p ++ [rd x6 (p:Int)]:=by
     conv=>lhs;rw [← List.take_append_drop p x6]
     congr 1
     rw [List.drop_eq_getElem_cons hpl,List.drop_of_length_le (by omega)]
     simp [rd,hpl]
    generalize rd x6 (p:Int)=a at h hsp
    rw [Int.toNat_natCast] at h
    have hyl:(x6.take p).length < 17592186044416:=by simp;omega
    generalize x6.take p=y at h hsp hyl
    subst hsp
    have skip:∀ k',k' < k+1→opt_reached.j1 k' l0 l1 x5 y a true=some r→(a < 0∨a ≥ l0.length∨marked x5 a.toNat)→Reached l0 l1 r:=by
     intro k' hk' hh ha
     cases k' with
     | zero=>simp [opt_reached.j1] at hh
     | succ k' =>
      rw [opt_reached.j1,if_pos rfl] at hh
      exact ih k' (by omega) _ _ _ hh (by omega) (hI.skip ha)
    split at h
    ·next hc=>exact skip k (by omega) h (.inl hc)
    split at h
    ·next hc=>exact skip k (by omega) h (.inr (.inl hc))
    rename_i c1 c2
    rw [if_pos (by omega),if_pos (by rw [hI.len];omega)] at h
    cases hmk:rdOf false x5 a with
    | true =>
     rw [hmk] at h
     exact skip k (by omega) h (.inr (.inr (by simpa [rdOf,marked] using hmk)))
    | false =>
     rw [hmk] at h
     cases k with
     | zero=>simp [opt_reached.j1] at h
     | succ k =>
      rw [opt_reached.j1,if_neg (by decide),if_pos (by omega),if_pos (by rw [hI.len];omega)] at h
      simp only [Option.bind_some] at h
      rw [if_pos (by omega)] at h
      have ea:rdQ l0 a=l0.getD a.toNat z35:=rfl
      have ew:wrap64 (a+1)=((a.toNat:Nat):Int)+1:=by rw [wrap_in (by omega)];omega
      rw [ea] at h
      have j3:∀ (b:Bool) (k':Nat),k'≤k→opt_reached.j3 k' l0 l1 (x5.set a.toNat true) y a (l0.getD a.toNat z35).f0 b (l0.getD a.toNat z35).f0 (l0.getD a.toNat z35).f1 (l0.getD a.toNat z35).f2 (l0.getD a.toNat z35).f3 (l0.getD a.toNat z35).f4=some r →
        (l0.getD a.toNat z35).f0≠4→(l0.getD a.toNat z35).f0≠3→(b=true↔((l0.getD a.toNat z35).f0=2∨(l0.getD a.toNat z35).f0=16))→Reached l0 l1 r:=by
       intro b k' hk' hh n4 n3 hb
       cases k' with
       | zero=>simp [opt_reached.j3] at hh
       | succ k' =>
        rw [opt_reached.j3] at hh
        cases b with
        | true =>
         rw [if_pos rfl] at hh
         simp only [Option.bind_some] at hh
         split at hh
         ·refine ih k' (by omega) _ _ _ hh (by simp at *;omega) (hI.take (by omega) (by omega) fun s=>?_)
          unfold succs
          rw [if_neg n4,if_neg n3,if_pos (hb.1 rfl),ew]
         ·cases hh
        | false =>
         rw [if_neg (by decide)] at hh
         have hnb:¬ ((l0.getD a.toNat z35).f0=2∨(l0.getD a.toNat z35).f0=16):=fun q=>by have:=hb.2 q;cases this
         by_cases h24:(l0.getD a.toNat z35).f0=24
         ·rw [if_pos h24] at hh
          have:=hI.take (L:=[]) (by omega) (by omega) fun s=>by unfold succs;rw [if_neg n4,if_neg n3,if_neg hnb,if_pos h24]
          rw [List.append_nil] at this
          exact ih k' (by omega) _ _ _ hh (by omega) this
         ·rw [if_neg h24] at hh
          rw [if_pos hyl] at hh
          refine ih k' (by omega) _ _ _ hh (by simp;omega) (hI.take (by omega) (by omega) fun s=>?_)
          unfold succs
          rw [if_neg n4,if_neg n3,if_neg hnb,if_neg h24,ew]
      by_cases h4:(l0.getD a.toNat z35).f0=4
      ·rw [if_pos h4] at h
       rw [if_pos hyl] at h
       exact ih k (by omega) _ _ _ h (by simp;omega) (hI.take (by omega) (by omega) fun s=>by unfold succs;rw [if_pos h4])
      rw [if_neg h4] at h
      by_cases h3:(l0.getD a.toNat z35).f0=3
      ·rw [if_pos h3] at h
       rw [if_pos hyl] at h
       ·obtain ⟨k',hk',hh,hl⟩:=rows_pushed hm k _ _ 0 r (by omega) h (by simp;omega)
        rw [List.drop_zero,List.append_assoc] at hh hl
        exact ih k' (by omega) _ _ _ hh hl (hI.take (by omega) (by omega) fun s=>by unfold succs;rw [if_neg h4,if_pos h3];rfl)
      rw [if_neg h3] at h
      by_cases h2:(l0.getD a.toNat z35).f0=2
      ·rw [if_pos h2] at h
       exact j3 _ k (Nat.le_refl _) h h4 h3 (by rw [h2];simp)
      ·rw [if_neg h2] at h
       exact j3 _ k (Nat.le_refl _) h h4 h3 ⟨fun q=>.inr (by simpa using q),fun q=>by have:=q.resolve_left h2;simp only [this];rfl⟩
   ·rw [if_neg h6] at h
    injection h with h
    subst h
    have:x6=[]:=List.eq_nil_of_length_eq_zero (by omega)
    subst this
    exact hI.done
theorem reached_is {k:Nat} {r:List Bool} (hm:l1.length < 9223372036854775807) (h:opt_reached.f k l0 l1=some r):Reached l0 l1 r:=by
 unfold opt_reached.f at h
 rw [if_pos (by omega)] at h
 split at h
 ·rename_i hn
  rw [Int.toNat_natCast] at hn h
  have hnm:∀ i,¬ marked (List.replicate l0.length false) i:=fun i hi=>by
   unfold marked at hi
   rw [List.getD_eq_getElem?_getD,List.getElem?_replicate] at hi
   split at hi <;> simp at hi
  exact reached_partial hn hm k _ _ r h (by simp) ⟨by simp,fun _=>.inr (by simp),fun i _ hi=>absurd hi (hnm i),fun S hS=>⟨fun i _ hi=>absurd hi (hnm i),fun s hs _ _=>by
   simp only [List.mem_singleton] at hs;subst hs;exact hS.1⟩⟩
 ·cases h
end
def unm (x:List Bool):Nat:=(x.filter (!·)).length
theorem unm_set {x:List Bool} {i:Nat} (hi:i < x.length) (h:x.getD i false=false):unm (x.set i true)+1=unm x:=by
 have hx:x=x.take i ++ x[i] :: x.drop (i+1):=by rw [← List.drop_eq_getElem_cons hi,List.take_append_drop]
 have hb:x[i]=false:=by simpa [List.getD,hi] using h
 have hs:x.set i true=x.take i ++ true :: x.drop (i+1):=by
  conv=>lhs;rw [hx]
  rw [List.set_append_right _ _ (by simp;omega)]
  rw [show i - (x.take i).length=0 by simp;omega]
  rfl
 rw [hs]
 unfold unm
 conv=>rhs;rw [hx]
 rw [hb]
 simp only [List.filter_append,List.length_append,List.filter_cons]
 simp
 omega
theorem unm_le (x:List Bool):unm x≤x.length:=List.length_filter_le _ _
theorem w64 {x:Int} (h:-9223372036854775808≤x∧x≤9223372036854775807):wrap64 x=x:=by unfold wrap64;omega
section
variable (l0:List S35) (l1:List S37)
theorem reached_rows (x6:List Int) (hm:l1.length < 17592186044416) (x5:List Bool) (r:List Bool)
  (hk:∃ k,opt_reached.l0 k l0 l1 x5 (x6 ++ l1.map S37.f1)=some r) (hl:x6.length+l1.length < 17592186044416) (d:Nat):∀ i,i+d=l1.length →
  ∃ k,opt_reached.l1 k l0 l1 x5 (x6 ++ (l1.take i).map S37.f1) l1 (l1.length:Int) (i:Int)=some r:=by
 induction d with
 | zero =>
  intro i hi
  obtain ⟨k,hk⟩:=hk
  obtain rfl:i=l1.length:=by omega
  refine ⟨k+1,?_⟩
  rw [opt_reached.l1,if_neg (by omega),List.take_length]
  exact hk
 | succ d ih =>
  intro i hi
  obtain ⟨k,hk'⟩:=ih (i+1) (by omega)
  refine ⟨k+1,?_⟩
  have hil:i < l1.length:=by omega
  rw [opt_reached.l1,if_pos (by omega),if_pos (by omega),if_pos (by omega),if_pos (by simp;omega)]
  rw [w64 (by omega)]
  have e:rdR l1 (i:Int)=l1[i]:=by simp [rdR,hil]
  rw [e]
  rw [List.take_succ_eq_append_getElem hil,List.map_append,← List.append_assoc] at hk'
  exact hk'
theorem reached_go (hb:l0.length*(l1.length+3) < 8796093022208) (hm:l1.length < 8796093022208) (hn:l0.length < 8796093022208) (p:Nat):∀ (x5:List Bool) (x6:List Int),x5.length=l0.length→unm x5*(l1.length+3)+x6.length≤p→unm x5*(l1.length+3)+x6.length≤l0.length*(l1.length+3)+1 →
  ∃ k r,opt_reached.l0 k l0 l1 x5 x6=some r∧r.length=l0.length:=by
 induction p with
 | zero =>
  intro x5 x6 h5 hp _
  refine ⟨1,x5,?_,h5⟩
  have:x6.length=0:=by omega
  rw [opt_reached.l0,if_neg (by omega)]
 | succ p ih =>
  intro x5 x6 h5 hp hle
  by_cases h6:0 < x6.length
  ·have hu:=unm_le x5
   have e1:wrap64 ((x6.length:Int) - 1)=(x6.length:Int) - 1:=w64 (by omega)
   have e2:((x6.length:Int) - 1).toNat=x6.length - 1:=by omega
   have hyl:(x6.take (x6.length - 1)).length=x6.length - 1:=by simp
   generalize hy:x6.take (x6.length - 1)=y at hyl
   obtain ⟨a,ha⟩:∃ a,rd x6 ((x6.length:Int) - 1)=a:=⟨_,rfl⟩
   have skip:(∃ k r,opt_reached.j1 k l0 l1 x5 y a true=some r∧r.length=l0.length):=by
    obtain ⟨k,r,hk,hr⟩:=ih x5 y h5 (by omega) (by omega)
    exact ⟨k+1,r,by rw [opt_reached.j1,if_pos rfl];exact hk,hr⟩
   have open0:∀ k,opt_reached.l0 (k+1) l0 l1 x5 x6=(if a < 0 then opt_reached.j1 k l0 l1 x5 y a true else if a ≥ (l0.length:Int) then opt_reached.j1 k l0 l1 x5 y a true else if 0≤a then (if a < (x5.length:Int) then opt_reached.j1 k l0 l1 x5 y a (rdOf false x5 a) else none) else none):=by
    intro k
    rw [opt_reached.l0,if_pos (by omega),e1,if_pos (by omega),if_pos (by omega),if_pos (by omega),e2,hy,ha]
    rfl
   by_cases h1:a < 0
   ·obtain ⟨k,r,hk,hr⟩:=skip
    exact ⟨k+1,r,by rw [open0,if_pos h1];exact hk,hr⟩
   by_cases h2:a ≥ (l0.length:Int)
   ·obtain ⟨k,r,hk,hr⟩:=skip
    exact ⟨k+1,r,by rw [open0,if_neg h1,if_pos h2];exact hk,hr⟩
   have open1:∀ k,opt_reached.l0 (k+1) l0 l1 x5 x6=opt_reached.j1 k l0 l1 x5 y a (rdOf false x5 a):=by
    intro k
    rw [open0,if_neg h1,if_neg h2,if_pos (by omega),if_pos (by omega)]
   cases hmk:rdOf false x5 a with
   | true =>
    obtain ⟨k,r,hk,hr⟩:=skip
    exact ⟨k+1,r,by rw [open1,hmk];exact hk,hr⟩
   | false =>
    have hai:a.toNat < x5.length:=by omega
    have hus:=unm_set hai (by simpa [rdOf] using hmk)
    have h5':(x5.set a.toNat true).length=l0.length:=by simp;exact h5
    have hmul:unm (x5.set a.toNat true)*(l1.length+3)+(l1.length+3)=unm x5*(l1.length+3):=by rw [← hus,Nat.add_mul,Nat.one_mul]
    have next:∀ z:List Int,z.length≤y.length+l1.length+2→∃ k r,opt_reached.l0 k l0 l1 (x5.set a.toNat true) z=some r∧r.length=l0.length:=fun z hz=>ih _ z h5' (by omega) (by omega)
    have hyb:y.length < 17592186044416 - l1.length - 4:=by omega
    suffices ∃ k r,opt_reached.j1 k l0 l1 x5 y a false=some r∧r.length=l0.length by
     obtain ⟨k,r,hk,hr⟩:=this
     exact ⟨k+1,r,by rw [open1,hmk];exact hk,hr⟩
    have openj:∀ k,opt_reached.j1 (k+1) l0 l1 x5 y a false=(if (rdQ l0 a).f0=4 then (if y.length < 17592186044416 then opt_reached.l0 k l0 l1 (x5.set a.toNat true) (y ++ [(rdQ l0 a).f1]) else none) else if (rdQ l0 a).f0=3 then (if y.length < 17592186044416 then opt_reached.l1 k l0 l1 (x5.set a.toNat true) (y ++ [(rdQ l0 a).f1]) l1 (l1.length:Int) 0 else none) else if (rdQ l0 a).f0=2 then opt_reached.j3 k l0 l1 (x5.set a.toNat true) y a (rdQ l0 a).f0 ((rdQ l0 a).f0 == 2) (rdQ l0 a).f0 (rdQ l0 a).f1 (rdQ l0 a).f2 (rdQ l0 a).f3 (rdQ l0 a).f4 else opt_reached.j3 k l0 l1 (x5.set a.toNat true) y a (rdQ l0 a).f0 ((rdQ l0 a).f0 == 16) (rdQ l0 a).f0 (rdQ l0 a).f1 (rdQ l0 a).f2 (rdQ l0 a).f3 (rdQ l0 a).f4):=by
     intro k
     rw [opt_reached.j1,if_neg (by decide),if_pos (by omega),if_pos (by omega)]
     simp only [Option.bind_some]
     rw [if_pos (by omega)]
    have j3:∀ b:Bool,∃ k r,opt_reached.j3 k l0 l1 (x5.set a.toNat true) y a (rdQ l0 a).f0 b (rdQ l0 a).f0 (rdQ l0 a).f1 (rdQ l0 a).f2 (rdQ l0 a).f3 (rdQ l0 a).f4=some r∧r.length=l0.length:=by
     intro b
     cases b with
     | true =>
      obtain ⟨k,r,hk,hr⟩:=next (y ++ [wrap64 (a+1),(rdQ l0 a).f2]) (by simp <;> omega)
      refine ⟨k+1,r,?_,hr⟩
      rw [opt_reached.j3,if_pos rfl]
      simp only [Option.bind_some]
      rw [if_pos (by simp;omega)]
      exact hk
     | false =>
      by_cases h24:(rdQ l0 a).f0=24
      ·obtain ⟨k,r,hk,hr⟩:=next y (by omega)
       exact ⟨k+1,r,by rw [opt_reached.j3,if_neg (by decide),if_pos h24];exact hk,hr⟩
      ·obtain ⟨k,r,hk,hr⟩:=next (y ++ [wrap64 (a+1)]) (by simp;omega)
       exact ⟨k+1,r,by rw [opt_reached.j3,if_neg (by decide),if_neg h24,if_pos (by omega)];exact hk,hr⟩
    by_cases h4:(rdQ l0 a).f0=4
    ·obtain ⟨k,r,hk,hr⟩:=next (y ++ [(rdQ l0 a).f1]) (by simp;omega)
     exact ⟨k+1,r,by rw [openj,if_pos h4,if_pos (by omega)];exact hk,hr⟩
    by_cases h3:(rdQ l0 a).f0=3
    ·obtain ⟨k,r,hk,hr⟩:=next ((y ++ [(rdQ l0 a).f1]) ++ l1.map S37.f1) (by simp;omega)
     obtain ⟨k',hk'⟩:=reached_rows l0 l1 (y ++ [(rdQ l0 a).f1]) (by omega) _ r ⟨k,hk⟩ (by simp;omega) l1.length 0 (by omega)
     simp only [List.take_zero,List.map_nil,List.append_nil] at hk'
     exact ⟨k'+1,r,by rw [openj,if_neg h4,if_pos h3,if_pos (by omega)];exact hk',hr⟩
    by_cases h2':(rdQ l0 a).f0=2
    ·obtain ⟨k,r,hk,hr⟩:=j3 ((rdQ l0 a).f0 == 2)
     exact ⟨k+1,r,by rw [openj,if_neg h4,if_neg h3,if_pos h2'];exact hk,hr⟩
    ·obtain ⟨k,r,hk,hr⟩:=j3 ((rdQ l0 a).f0 == 16)
     exact ⟨k+1,r,by rw [openj,if_neg h4,if_neg h3,if_neg h2'];exact hk,hr⟩
  ·refine ⟨1,x5,?_,h5⟩
   rw [opt_reached.l0,if_neg (by omega)]
theorem reached_total (hb:l0.length*(l1.length+3) < 8796093022208) (hm:l1.length < 8796093022208) (hn:l0.length < 8796093022208):∃ k r,opt_reached.f k l0 l1=some r∧r.length=l0.length:=by
 have hu:=unm_le (List.replicate l0.length false)
 rw [List.length_replicate] at hu
 have hmul:=Nat.mul_le_mul_right (l1.length+3) hu
 obtain ⟨k,r,hk,hr⟩:=reached_go l0 l1 hb hm hn _ (List.replicate l0.length false) [0] (by simp) (Nat.le_refl _) (by simp only [List.length_cons,List.length_nil];omega)
 refine ⟨k,r,?_,hr⟩
 unfold opt_reached.f
 rw [if_pos (by omega),if_pos (by omega)]
 simpa using hk
end
end Go.Proofs.Ytedghbjmhcgilaa.A
end
section
namespace Go.Proofs.Ytedghbjmhcgilaa.POpt
open Go.RowKit Go.Proofs.YtedghbjmhcgilaaW.PrintWords Go.Proofs.YtedghbjmhcgilaaW.PrintLast Go.Proofs.YtedghbjmhcgilaaW.PrintMore
attribute [local go_sem high] eqA35 eqA37
mutual
def rgSameBlock.j0:Nat→Bool→List (S35)→List (S35)→List (S37)→List (S35)→List (S35)→List (S37)→Option (Bool)
  | 0,_,_,_,_,_,_,_=>none
  | k+1,x32,x102000,x102001,x102002,x103000,x103001,x103002=>if x32=true then (some false) else (rgSameBlock.l0 k 0 x102000 x102001 x102002 x103000 x103001 x103002)
def rgSameBlock.l0:Nat→Int→List (S35)→List (S35)→List (S37)→List (S35)→List (S35)→List (S37)→Option (Bool)
  | 0,_,_,_,_,_,_,_=>none
  | k+1,x5,x102000,x102001,x102002,x103000,x103001,x103002=>if x5 < (x102000.length:Int) then (if 0≤x5 then (if x5 < (x103000.length:Int) then (if (!(((rdQ x102000 x5).f0) == ((rdQ x103000 x5).f0)) || (!(((rdQ x102000 x5).f1) == ((rdQ x103000 x5).f1)) || (!(((rdQ x102000 x5).f2) == ((rdQ x103000 x5).f2)) || (!(((rdQ x102000 x5).f3) == ((rdQ x103000 x5).f3)) || (!(((rdQ x102000 x5).f4) == ((rdQ x103000 x5).f4)))))))=true then (some false) else (rgSameBlock.l0 k (wrap64 (x5+1)) x102000 x102001 x102002 x103000 x103001 x103002)) else (none)) else (none)) else (rgSameBlock.l1 k 0 x102000 x102001 x102002 x103000 x103001 x103002)
def rgSameBlock.l1:Nat→Int→List (S35)→List (S35)→List (S37)→List (S35)→List (S35)→List (S37)→Option (Bool)
  | 0,_,_,_,_,_,_,_=>none
  | k+1,x6,x102000,x102001,x102002,x103000,x103001,x103002=>if x6 < (x102001.length:Int) then (if 0≤x6 then (if x6 < (x103001.length:Int) then (if (!(((rdQ x102001 x6).f0) == ((rdQ x103001 x6).f0)) || (!(((rdQ x102001 x6).f1) == ((rdQ x103001 x6).f1)) || (!(((rdQ x102001 x6).f2) == ((rdQ x103001 x6).f2)) || (!(((rdQ x102001 x6).f3) == ((rdQ x103001 x6).f3)) || (!(((rdQ x102001 x6).f4) == ((rdQ x103001 x6).f4)))))))=true then (some false) else (rgSameBlock.l1 k (wrap64 (x6+1)) x102000 x102001 x102002 x103000 x103001 x103002)) else (none)) else (none)) else (rgSameBlock.l2 k 0 x102000 x102001 x102002 x103000 x103001 x103002)
def rgSameBlock.l2:Nat→Int→List (S35)→List (S35)→List (S37)→List (S35)→List (S35)→List (S37)→Option (Bool)
  | 0,_,_,_,_,_,_,_=>none
  | k+1,x7,x102000,x102001,x102002,x103000,x103001,x103002=>if x7 < (x102002.length:Int) then (if 0≤x7 then (if x7 < (x103002.length:Int) then (if (!(((rdR x102002 x7).f0) == ((rdR x103002 x7).f0)) || (!(((rdR x102002 x7).f1) == ((rdR x103002 x7).f1))))=true then (some false) else (rgSameBlock.l2 k (wrap64 (x7+1)) x102000 x102001 x102002 x103000 x103001 x103002)) else (none)) else (none)) else (some true)
end
def rgSameBlock.f (k:Nat) (l0_0:List (S35)) (l0_1:List (S35)) (l0_2:List (S37)) (l1_0:List (S35)) (l1_1:List (S35)) (l1_2:List (S37)):Option (Bool):=if (l0_0.length:Int)=(l1_0.length:Int) then (if (l0_1.length:Int)=(l1_1.length:Int) then (rgSameBlock.j0 k ((l0_2.length:Int) != (l1_2.length:Int)) l0_0 l0_1 l0_2 l1_0 l1_1 l1_2) else (rgSameBlock.j0 k true l0_0 l0_1 l0_2 l1_0 l1_1 l1_2)) else (rgSameBlock.j0 k true l0_0 l0_1 l0_2 l1_0 l1_1 l1_2)
theorem rgSameBlock.mono_l:∀ k,(∀ y0 y1 y2 y3 y4 y5 y6,LeO (rgSameBlock.j0 k y0 y1 y2 y3 y4 y5 y6) (rgSameBlock.j0 (k+1) y0 y1 y2 y3 y4 y5 y6))∧(∀ y0 y1 y2 y3 y4 y5 y6,LeO (rgSameBlock.l0 k y0 y1 y2 y3 y4 y5 y6) (rgSameBlock.l0 (k+1) y0 y1 y2 y3 y4 y5 y6))∧(∀ y0 y1 y2 y3 y4 y5 y6,LeO (rgSameBlock.l1 k y0 y1 y2 y3 y4 y5 y6) (rgSameBlock.l1 (k+1) y0 y1 y2 y3 y4 y5 y6))∧(∀ y0 y1 y2 y3 y4 y5 y6,LeO (rgSameBlock.l2 k y0 y1 y2 y3 y4 y5 y6) (rgSameBlock.l2 (k+1) y0 y1 y2 y3 y4 y5 y6))
  | 0=>⟨fun _ _ _ _ _ _ _ r h=>by simp [rgSameBlock.j0] at h,fun _ _ _ _ _ _ _ r h=>by simp [rgSameBlock.l0] at h,fun _ _ _ _ _ _ _ r h=>by simp [rgSameBlock.l1] at h,fun _ _ _ _ _ _ _ r h=>by simp [rgSameBlock.l2] at h⟩
  | k+1=>by
    obtain ⟨ih0,ih1,ih2,ih3⟩:=rgSameBlock.mono_l k
    refine ⟨?_,?_,?_,?_⟩
    · intro y0 y1 y2 y3 y4 y5 y6
      unfold rgSameBlock.j0
      repeat' first | (with_reducible exact ih1 _ _ _ _ _ _ _) | (with_reducible exact LeO.refl _) | (with_reducible refine LeO.ite ?_ ?_)
    · intro y0 y1 y2 y3 y4 y5 y6
      unfold rgSameBlock.l0
      repeat' first | (with_reducible exact ih1 _ _ _ _ _ _ _) | (with_reducible exact ih2 _ _ _ _ _ _ _) | (with_reducible exact LeO.refl _) | (with_reducible refine LeO.ite ?_ ?_)
    · intro y0 y1 y2 y3 y4 y5 y6
      unfold rgSameBlock.l1
      repeat' first | (with_reducible exact ih2 _ _ _ _ _ _ _) | (with_reducible exact ih3 _ _ _ _ _ _ _) | (with_reducible exact LeO.refl _) | (with_reducible refine LeO.ite ?_ ?_)
    · intro y0 y1 y2 y3 y4 y5 y6
      unfold rgSameBlock.l2
      repeat' first | (with_reducible exact ih3 _ _ _ _ _ _ _) | (with_reducible exact LeO.refl _) | (with_reducible refine LeO.ite ?_ ?_)
theorem rgSameBlock.mono:∀ a0 a1 a2 a3 a4 a5 k,LeO (rgSameBlock.f k a0 a1 a2 a3 a4 a5) (rgSameBlock.f (k+1) a0 a1 a2 a3 a4 a5):=by
  intro a0 a1 a2 a3 a4 a5 k
  obtain ⟨ih0,ih1,ih2,ih3⟩:=rgSameBlock.mono_l k
  unfold rgSameBlock.f
  repeat' first | (with_reducible exact ih0 _ _ _ _ _ _ _) | (with_reducible refine LeO.ite ?_ ?_)
set_option maxHeartbeats 8000000 in
set_option maxRecDepth 100000 in
theorem rgSameBlock.calls (k:Nat) (an:Option Addr) (av:Nat) (af:List (S35)) (ao:Option Addr) (aw:Nat) (ag:List (S35)) (ap:Option Addr) (ax:Nat) (ak:List (S37)) (aq:Option Addr) (ay:Nat) (ah:List (S35)) (ar:Option Addr) (az:Nat) (ai:List (S35)) (au:Option Addr) (aA:Nat) (al:List (S37)) (r:Bool) (w:World) (bw:Kd.C k35 w an af.length af) (cb:af.length≤av) (bx:Kd.C k35 w ao ag.length ag) (cc:ag.length≤aw) (bz:Kd.C k37 w ap ak.length ak) (cd:ak.length≤ax) (bA:Kd.C k35 w aq ah.length ah) (ce:ah.length≤ay) (bB:Kd.C k35 w ar ai.length ai) (cf:ai.length≤az) (bC:Kd.C k37 w au al.length al) (cg:al.length≤aA) (h:rgSameBlock.f k af ag ak ah ai al=some r) :
    Calls Try.prog 33 #[.agg #[.slice an af.length av,.slice ao ag.length aw,.slice ap ak.length ax],.agg #[.slice aq ah.length ay,.slice ar ai.length az,.slice au al.length aA]] w fun e w'=>e=.returned (.bool r)∧Below w.heap.size w w':=by
 have fy:=Try.underlying30
 have fz:=Try.underlying35
 have fA:=Try.underlying37
 have bo:=Aside0.mk bw
 clear bw cb
 have bp:=Aside0.mk bx
 clear bx cc
 have bq:=Aside0.mk bz
 clear bz cd
 have br:=Aside0.mk bA
 clear bA ce
 have bs:=Aside0.mk bB
 clear bB cf
 have bt:=Aside0.mk bC
 clear bC cg
 have HB:=Aside0.mk (Below.refl w.heap.size w)
 have H:(if (af.length:Int)=(ah.length:Int) then (if (ag.length:Int)=(ai.length:Int) then (rgSameBlock.j0 k ((ak.length:Int) != (al.length:Int)) af ag ak ah ai al) else (rgSameBlock.j0 k true af ag ak ah ai al)) else (rgSameBlock.j0 k true af ag ak ah ai al))=some r:=h
 clear h
 have ep:=Aside0.mk H
 clear H
 go_enter Try.func33,Try.ntmps33
 go_upto_region 1 with (first | ((with_reducible refine gate_dst (N:=2) rfl ?_);(try (refine gate_guard (by rfl) ?_;dsimp only));refine box_event ?hg (N:=2) ?hd (cs:=#[.slice an af.length av,.slice ao ag.length aw,.slice ap ak.length ax]) (t:=30) ?hr ?_;(case hd=>rfl);(case hg=>rfl);(case hr=>(go_simp;done));intro aB hg w4 hbox hb;have ac:=Aside0.mk hbox;have eQ:=qz HB hg;have eO:=qz HB hg;replace HB:=qs HB hb;clear hb hbox hg)|((with_reducible refine gate_dst (N:=3) rfl ?_);(try (refine gate_guard (by rfl) ?_;dsimp only));refine box_event ?hg (N:=3) ?hd (cs:=#[.slice aq ah.length ay,.slice ar ai.length az,.slice au al.length aA]) (t:=30) ?hr ?_;(case hd=>rfl);(case hg=>rfl);(case hr=>(go_simp;done));intro aC hg w5 hbox hb;have aj:=Aside0.mk hbox;have eR:=qz HB hg;have eP:=qz HB hg;replace HB:=qs HB hb;have aa:=qn ac hg;have ab:=qN ac hg;replace ac:=qb ac hb;clear hb hbox hg))
 repeat (go_quiet (fail);go_upto_region 1 with (fail))
 (try simp only [Act.put,s1,s2,s3])
 go_cut [32] (fun fB wc=>∃ (kq:Nat) (aD:Bool),fB=.bool aD∧Aside0 (rgSameBlock.j0 kq aD af ag ak ah ai al=some r)∧Aside0 (kq≤k)∧Aside0 (wc.heap[aB]?=some (.cells #[(.slice an af.length av),(.slice ao ag.length aw),(.slice ap ak.length ax)] 30 (0,0)))∧Aside0 (wc.heap[aC]?=some (.cells #[(.slice aq ah.length ay),(.slice ar ai.length az),(.slice au al.length aA)] 30 (0,0)))∧Aside0 (Below w.heap.size w wc))
 case first =>
  have H:=ep.out
  clear ep
  by_cases c6:(af.length:Int)=(ah.length:Int)
  ·rw [if_pos c6] at H
   obtain ⟨eq,er⟩:=cBt c6
   have es:(af.length == ah.length)=true:=by (simp at c6 ⊢;omega)
   clear c6
   by_cases c7:(ag.length:Int)=(ai.length:Int)
   ·rw [if_pos c7] at H
    obtain ⟨et,eu⟩:=cBt c7
    have ev:(ag.length == ai.length)=true:=by (simp at c7 ⊢;omega)
    clear c7
    have H':=Aside0.mk H
    clear H
    have fw:=aa.out
    have fx:=ab.out
    refine qc3 ac fun ew ex ey ez eA eB=>?_
    refine qc3 aj fun cj ck cl dm dn dp=>?_
    go_wp2
    repeat (go_quiet (fail);try go_wp2)
    go_meet
    case rel=>exact ⟨_,(((ak.length:Int) != (al.length:Int))),rfl,H',⟨by omega⟩,ac,aj,HB⟩
   rw [if_neg c7] at H
   obtain ⟨et,eu⟩:=cBf c7
   have ev:(ag.length == ai.length)=false:=by (simp at c7 ⊢;omega)
   have H':=Aside0.mk H
   clear H
   have eZ:=aa.out
   have fk:=ab.out
   refine qc3 ac fun cm cn co dq dr ds=>?_
   refine qc3 aj fun cp cq cr dt du dv=>?_
   go_wp2
   repeat (go_quiet (fail);try go_wp2)
   go_meet
   case rel=>exact ⟨_,(true),rfl,H',⟨by omega⟩,ac,aj,HB⟩
  rw [if_neg c6] at H
  obtain ⟨eq,er⟩:=cBf c6
  have es:(af.length == ah.length)=false:=by (simp at c6 ⊢;omega)
  have H':=Aside0.mk H
  clear H
  have fa:=aa.out
  have fl:=ab.out
  refine qc3 ac fun ct cu cv dw dx dy=>?_
  refine qc3 aj fun cw cx cy dz dA dB=>?_
  go_wp2
  repeat (go_quiet (fail);try go_wp2)
  go_meet
  case rel=>exact ⟨_,(true),rfl,H',⟨by omega⟩,ac,aj,HB⟩
 clear ep
 obtain ⟨kq,aD,rfl,HA,bJ,ac,aj,HB⟩:=hcut
 obtain _ | fv:=kq
 ·exact absurd HA.out (by simp [rgSameBlock.j0])
 have H:=HA.out
 clear HA
 simp only [rgSameBlock.j0] at H
 by_cases ci:aD=true
 ·subst ci
  replace H:=iP H
  obtain rfl:=Option.some.inj H
  go_wp2
  repeat (go_quiet (fail);try go_wp2)
  go_ret
  exact ⟨by (rfl),HB.out⟩
 replace ci:=Bool.eq_false_iff.mpr ci
 subst ci
 replace H:=iF H
 have H':=Aside0.mk H
 clear H
 go_wp2
 repeat (go_quiet (fail);try go_wp2)
 go_loopg [5] fv (fun kq v5 w'=>∃ (ad:Int),v5=.int .i64 ad∧Aside0 (rgSameBlock.l0 kq ad af ag ak ah ai al=some r)∧Aside0 (kq≤fv)∧Aside0 (w'.heap[aB]?=some (.cells #[(.slice an af.length av),(.slice ao ag.length aw),(.slice ap ak.length ax)] 30 (0,0)))∧Aside0 (w'.heap[aC]?=some (.cells #[(.slice aq ah.length ay),(.slice ar ai.length az),(.slice au al.length aA)] 30 (0,0)))∧Aside0 (Below w.heap.size w w'))
 case atStart=>exact ⟨(0),rfl,H',⟨Nat.le_refl _⟩,ac,aj,HB⟩
 clear H'
 obtain ⟨ad,rfl,HA,bK,ac,aj,HB⟩:=hrel
 obtain _ | k2:=gk
 ·exact absurd HA.out (by simp [rgSameBlock.l0])
 have H:=HA.out
 clear HA
 simp only [rgSameBlock.l0] at H
 by_cases bL:ad < (af.length:Int)
 ·rw [if_pos bL] at H
  have bu:=decide_eq_true bL
  clear bL
  replace H:=iNd H
  obtain ⟨eT,H⟩:=H
  replace H:=iNd H
  obtain ⟨eU,H⟩:=H
  by_cases bM:(!(((rdQ af ad).f0) == ((rdQ ah ad).f0)) || (!(((rdQ af ad).f1) == ((rdQ ah ad).f1)) || (!(((rdQ af ad).f2) == ((rdQ ah ad).f2)) || (!(((rdQ af ad).f3) == ((rdQ ah ad).f3)) || (!(((rdQ af ad).f4) == ((rdQ ah ad).f4)))))))=true
  ·rw [if_pos bM] at H
   have bX:(!(((rdQ af ad).f0) == ((rdQ ah ad).f0)) || (!(((rdQ af ad).f1) == ((rdQ ah ad).f1)) || (!(((rdQ af ad).f2) == ((rdQ ah ad).f2)) || (!(((rdQ af ad).f3) == ((rdQ ah ad).f3)) || (!(((rdQ af ad).f4) == ((rdQ ah ad).f4)))))))=true:=bM
   clear bM
   obtain rfl:=Option.some.inj H
   have fb:=aa.out
   have fm:=ab.out
   refine qc3 ac fun cz cA cB dC dD dE=>?_
   obtain ⟨bR,bD,eC,eI,aQ,aR,aS,aT,aU⟩:=rd35 bo HB ad
   cases bD
   refine qc3 aj fun cC cD cE dF dG dH=>?_
   obtain ⟨bS,bE,eD,eJ,aV,aW,aX,aY,aZ⟩:=rd35 br HB ad
   cases bE
   go_wp2
   repeat (go_quiet (fail);try go_wp2)
   go_ret
   exact ⟨by (rfl),by repeat ((with_reducible first | exact HB.out | apply pwbd))⟩
  rw [if_neg bM] at H
  have bX:(!(((rdQ af ad).f0) == ((rdQ ah ad).f0)) || (!(((rdQ af ad).f1) == ((rdQ ah ad).f1)) || (!(((rdQ af ad).f2) == ((rdQ ah ad).f2)) || (!(((rdQ af ad).f3) == ((rdQ ah ad).f3)) || (!(((rdQ af ad).f4) == ((rdQ ah ad).f4)))))))=false:=by simpa using bM
  clear bM
  have H':=Aside0.mk H
  clear H
  have fc:=aa.out
  have fn:=ab.out
  refine qc3 ac fun cF cG cH dI dJ dK=>?_
  obtain ⟨bR,bD,eC,eI,aQ,aR,aS,aT,aU⟩:=rd35 bo HB ad
  cases bD
  refine qc3 aj fun cI cJ cK dL dM dN=>?_
  obtain ⟨bS,bE,eD,eJ,aV,aW,aX,aY,aZ⟩:=rd35 br HB ad
  cases bE
  go_wp2
  repeat (go_quiet (fail);try go_wp2)
  go_roundg k2
  case measure=>have:=bJ.out;have:=bK.out;omega
  case rel=>exact ⟨(wrap64 (ad+1)),rfl,H',⟨by have:=bJ.out;have:=bK.out;omega⟩,⟨by (with_reducible repeat (refine bk_N ?_ _));exact ac.out⟩,⟨by (with_reducible repeat (refine bk_N ?_ _));exact aj.out⟩,⟨by repeat ((with_reducible first | exact HB.out | apply pwbd))⟩⟩
 rw [if_neg bL] at H
 have bu:=decide_eq_false bL
 clear bL
 have H':=Aside0.mk H
 clear H
 have fd:=aa.out
 have fo:=ab.out
 refine qc3 ac fun aE aF aG aK aL aM=>?_
 go_wp2
 repeat (go_quiet (fail);try go_wp2)
 go_loopg [6] k2 (fun kq v6 w'=>∃ (ae:Int),v6=.int .i64 ae∧Aside0 (rgSameBlock.l1 kq ae af ag ak ah ai al=some r)∧Aside0 (kq≤k2)∧Aside0 (w'.heap[aB]?=some (.cells #[(.slice an af.length av),(.slice ao ag.length aw),(.slice ap ak.length ax)] 30 (0,0)))∧Aside0 (w'.heap[aC]?=some (.cells #[(.slice aq ah.length ay),(.slice ar ai.length az),(.slice au al.length aA)] 30 (0,0)))∧Aside0 (Below w.heap.size w w'))
 case atStart=>exact ⟨(0),rfl,H',⟨Nat.le_refl _⟩,ac,aj,HB⟩
 clear H'
 clear bu aE aF aG aK aL aM
 obtain ⟨ae,rfl,HA,ch,ac,aj,HB⟩:=hrel
 obtain _ | k3:=gk
 ·exact absurd HA.out (by simp [rgSameBlock.l1])
 have H:=HA.out
 clear HA
 simp only [rgSameBlock.l1] at H
 by_cases bN:ae < (ag.length:Int)
 ·rw [if_pos bN] at H
  have bv:=decide_eq_true bN
  clear bN
  replace H:=iNd H
  obtain ⟨eV,H⟩:=H
  replace H:=iNd H
  obtain ⟨eW,H⟩:=H
  by_cases bO:(!(((rdQ ag ae).f0) == ((rdQ ai ae).f0)) || (!(((rdQ ag ae).f1) == ((rdQ ai ae).f1)) || (!(((rdQ ag ae).f2) == ((rdQ ai ae).f2)) || (!(((rdQ ag ae).f3) == ((rdQ ai ae).f3)) || (!(((rdQ ag ae).f4) == ((rdQ ai ae).f4)))))))=true
  ·rw [if_pos bO] at H
   have bY:(!(((rdQ ag ae).f0) == ((rdQ ai ae).f0)) || (!(((rdQ ag ae).f1) == ((rdQ ai ae).f1)) || (!(((rdQ ag ae).f2) == ((rdQ ai ae).f2)) || (!(((rdQ ag ae).f3) == ((rdQ ai ae).f3)) || (!(((rdQ ag ae).f4) == ((rdQ ai ae).f4)))))))=true:=bO
   clear bO
   obtain rfl:=Option.some.inj H
   have fe:=aa.out
   have fp:=ab.out
   refine qc3 ac fun cL cM cN dO dP dQ=>?_
   obtain ⟨bT,bF,eE,eK,ba,bb,bc,bd,be⟩:=rd35 bp HB ae
   cases bF
   refine qc3 aj fun cO cP cQ dR dS dT=>?_
   obtain ⟨bU,bG,eF,eL,bf,bg,bh,bi,bj⟩:=rd35 bs HB ae
   cases bG
   go_wp2
   repeat (go_quiet (fail);try go_wp2)
   go_ret
   exact ⟨by (rfl),by repeat ((with_reducible first | exact HB.out | apply pwbd))⟩
  rw [if_neg bO] at H
  have bY:(!(((rdQ ag ae).f0) == ((rdQ ai ae).f0)) || (!(((rdQ ag ae).f1) == ((rdQ ai ae).f1)) || (!(((rdQ ag ae).f2) == ((rdQ ai ae).f2)) || (!(((rdQ ag ae).f3) == ((rdQ ai ae).f3)) || (!(((rdQ ag ae).f4) == ((rdQ ai ae).f4)))))))=false:=by simpa using bO
  clear bO
  have H':=Aside0.mk H
  clear H
  have ff:=aa.out
  have fq:=ab.out
  refine qc3 ac fun cR cS cT dU dV dW=>?_
  obtain ⟨bT,bF,eE,eK,ba,bb,bc,bd,be⟩:=rd35 bp HB ae
  cases bF
  refine qc3 aj fun cU cV cW dX dY dZ=>?_
  obtain ⟨bU,bG,eF,eL,bf,bg,bh,bi,bj⟩:=rd35 bs HB ae
  cases bG
  go_wp2
  repeat (go_quiet (fail);try go_wp2)
  go_roundg k3
  case measure=>have:=bJ.out;have:=bK.out;have:=ch.out;omega
  case rel=>exact ⟨(wrap64 (ae+1)),rfl,H',⟨by have:=bJ.out;have:=bK.out;have:=ch.out;omega⟩,⟨by (with_reducible repeat (refine bk_N ?_ _));exact ac.out⟩,⟨by (with_reducible repeat (refine bk_N ?_ _));exact aj.out⟩,⟨by repeat ((with_reducible first | exact HB.out | apply pwbd))⟩⟩
 rw [if_neg bN] at H
 have bv:=decide_eq_false bN
 clear bN
 have H':=Aside0.mk H
 clear H
 have fg:=aa.out
 have fr:=ab.out
 refine qc3 ac fun aH aI aJ aN aO aP=>?_
 go_wp2
 repeat (go_quiet (fail);try go_wp2)
 go_loopg [7] k3 (fun kq v7 w'=>∃ (am:Int),v7=.int .i64 am∧Aside0 (rgSameBlock.l2 kq am af ag ak ah ai al=some r)∧Aside0 (kq≤k3)∧Aside0 (w'.heap[aB]?=some (.cells #[(.slice an af.length av),(.slice ao ag.length aw),(.slice ap ak.length ax)] 30 (0,0)))∧Aside0 (w'.heap[aC]?=some (.cells #[(.slice aq ah.length ay),(.slice ar ai.length az),(.slice au al.length aA)] 30 (0,0)))∧Aside0 (Below w.heap.size w w'))
 case atStart=>exact ⟨(0),rfl,H',⟨Nat.le_refl _⟩,ac,aj,HB⟩
 clear H'
 clear bv aH aI aJ aN aO aP
 obtain ⟨am,rfl,HA,eS,ac,aj,HB⟩:=hrel
 obtain _ | k4:=gk
 ·exact absurd HA.out (by simp [rgSameBlock.l2])
 have H:=HA.out
 clear HA
 simp only [rgSameBlock.l2] at H
 by_cases bP:am < (ak.length:Int)
 ·rw [if_pos bP] at H
  have bZ:=decide_eq_true bP
  clear bP
  replace H:=iNd H
  obtain ⟨eX,H⟩:=H
  replace H:=iNd H
  obtain ⟨eY,H⟩:=H
  by_cases bQ:(!(((rdR ak am).f0) == ((rdR al am).f0)) || (!(((rdR ak am).f1) == ((rdR al am).f1))))=true
  ·rw [if_pos bQ] at H
   have ca:(!(((rdR ak am).f0) == ((rdR al am).f0)) || (!(((rdR ak am).f1) == ((rdR al am).f1))))=true:=bQ
   clear bQ
   obtain rfl:=Option.some.inj H
   have fh:=aa.out
   have fs:=ab.out
   refine qc3 ac fun cX cY cZ ea eb ec=>?_
   obtain ⟨bV,bH,eG,eM,bk,bl⟩:=rd37 bq HB am
   cases bH
   refine qc3 aj fun da db dc ed ee ef=>?_
   obtain ⟨bW,bI,eH,eN,bm,bn⟩:=rd37 bt HB am
   cases bI
   go_wp2
   repeat (go_quiet (fail);try go_wp2)
   go_ret
   exact ⟨by (rfl),by repeat ((with_reducible first | exact HB.out | apply pwbd))⟩
  rw [if_neg bQ] at H
  have ca:(!(((rdR ak am).f0) == ((rdR al am).f0)) || (!(((rdR ak am).f1) == ((rdR al am).f1))))=false:=by simpa using bQ
  clear bQ
  have H':=Aside0.mk H
  clear H
  have fi:=aa.out
  have ft:=ab.out
  refine qc3 ac fun dd de df eg eh ei=>?_
  obtain ⟨bV,bH,eG,eM,bk,bl⟩:=rd37 bq HB am
  cases bH
  refine qc3 aj fun dg dh di ej ek el=>?_
  obtain ⟨bW,bI,eH,eN,bm,bn⟩:=rd37 bt HB am
  cases bI
  go_wp2
  repeat (go_quiet (fail);try go_wp2)
  go_roundg k4
  case measure=>have:=bJ.out;have:=bK.out;have:=ch.out;have:=eS.out;omega
  case rel=>exact ⟨(wrap64 (am+1)),rfl,H',⟨by have:=bJ.out;have:=bK.out;have:=ch.out;have:=eS.out;omega⟩,⟨by (with_reducible repeat (refine bk_N ?_ _));exact ac.out⟩,⟨by (with_reducible repeat (refine bk_N ?_ _));exact aj.out⟩,⟨by repeat ((with_reducible first | exact HB.out | apply pwbd))⟩⟩
 rw [if_neg bP] at H
 have bZ:=decide_eq_false bP
 clear bP
 obtain rfl:=Option.some.inj H
 have fj:=aa.out
 have fu:=ab.out
 refine qc3 ac fun dj dk dl em en eo=>?_
 go_wp2
 repeat (go_quiet (fail);try go_wp2)
 go_ret
 exact ⟨by (rfl),HB.out⟩
end Go.Proofs.Ytedghbjmhcgilaa.POpt
end
section
namespace Go.Proofs.Ytedghbjmhcgilaa.POpt
open Go.RowKit Go.Proofs.YtedghbjmhcgilaaW.PrintWords Go.Proofs.YtedghbjmhcgilaaW.PrintLast Go.Proofs.YtedghbjmhcgilaaW.PrintMore
def lwsame.f (k:Nat) (l0_0:List (S35)) (l0_1:List (S35)) (l0_2:List (S37)) (l1_0:List (S35)) (l1_1:List (S35)) (l1_2:List (S37)):Option (Bool):=(rgSameBlock.f k l0_0 l0_1 l0_2 l1_0 l1_1 l1_2).bind fun t111=>(some t111)
theorem lwsame.mono:∀ a0 a1 a2 a3 a4 a5 k,LeO (lwsame.f k a0 a1 a2 a3 a4 a5) (lwsame.f (k+1) a0 a1 a2 a3 a4 a5):=by
  intro a0 a1 a2 a3 a4 a5 k
  unfold lwsame.f
  repeat' first | (with_reducible exact rgSameBlock.mono _ _ _ _ _ _ _) | (with_reducible exact LeO.refl _) | (with_reducible refine LeO.bind ?_ (fun _=>?_))
set_option maxHeartbeats 8000000 in
set_option maxRecDepth 100000 in
theorem lwsame.calls (k:Nat) (ak:Option Addr) (aq:Nat) (ab:List (S35)) (al:Option Addr) (ar:Nat) (ac:List (S35)) (am:Option Addr) (au:Nat) (ad:List (S37)) (an:Option Addr) (av:Nat) (ae:List (S35)) (ao:Option Addr) (aw:Nat) (af:List (S35)) (ap:Option Addr) (ax:Nat) (ag:List (S37)) (r:Bool) (w:World) (aE:Kd.C k35 w ak ab.length ab) (ay:ab.length≤aq) (aF:Kd.C k35 w al ac.length ac) (az:ac.length≤ar) (aG:Kd.C k37 w am ad.length ad) (aA:ad.length≤au) (aH:Kd.C k35 w an ae.length ae) (aB:ae.length≤av) (aI:Kd.C k35 w ao af.length af) (aC:af.length≤aw) (aJ:Kd.C k37 w ap ag.length ag) (aD:ag.length≤ax) (h:lwsame.f k ab ac ad ae af ag=some r) :
    Calls Try.prog 10 #[.agg #[.slice ak ab.length aq,.slice al ac.length ar,.slice am ad.length au],.agg #[.slice an ae.length av,.slice ao af.length aw,.slice ap ag.length ax]] w fun e w'=>e=.returned (.bool r)∧Below w.heap.size w w':=by
 have bF:=Try.underlying30
 have aR:=Aside0.mk aE
 have aL:=Aside0.mk ay
 clear aE ay
 have aS:=Aside0.mk aF
 have aM:=Aside0.mk az
 clear aF az
 have aT:=Aside0.mk aG
 have aN:=Aside0.mk aA
 clear aG aA
 have aU:=Aside0.mk aH
 have aO:=Aside0.mk aB
 clear aH aB
 have aV:=Aside0.mk aI
 have aP:=Aside0.mk aC
 clear aI aC
 have aW:=Aside0.mk aJ
 have aQ:=Aside0.mk aD
 clear aJ aD
 have HB:=Aside0.mk (Below.refl w.heap.size w)
 have H:((rgSameBlock.f k ab ac ad ae af ag).bind fun aK=>(some aK))=some r:=h
 clear h
 replace H:=Option.bind_eq_some_iff.mp H
 obtain ⟨aK,bv,H⟩:=H
 try dsimp only at H
 have A3:=Aside0.mk bv
 clear bv
 obtain rfl:=Option.some.inj H
 go_enter Try.func10,Try.ntmps10
 go_wp2_with (first | ((with_reducible refine gate_dst (N:=2) rfl ?_);refine box_event ?hg (N:=2) ?hd (cs:=#[.slice ak ab.length aq,.slice al ac.length ar,.slice am ad.length au]) (t:=30) ?hr ?_;(case hd=>rfl);(case hg=>rfl);(case hr=>(go_simp;done));intro bB hg w4 hbox hb;have aa:=Aside0.mk hbox;have bz:=qz HB hg;have bw:=qz HB hg;replace HB:=qs HB hb;clear hb hbox hg)|((with_reducible refine gate_dst (N:=3) rfl ?_);refine box_event ?hg (N:=3) ?hd (cs:=#[.slice an ae.length av,.slice ao af.length aw,.slice ap ag.length ax]) (t:=30) ?hr ?_;(case hd=>rfl);(case hg=>rfl);(case hr=>(go_simp;done));intro bC hg w5 hbox hb;have aj:=Aside0.mk hbox;have bA:=qz HB hg;have bx:=qz HB hg;replace HB:=qs HB hb;have ah:=qn aa hg;have ai:=qN aa hg;replace aa:=qb aa hb;clear hb hbox hg;have bD:=ah.out;have bE:=ai.out;refine qc3 aa fun bj bk bl bp bq br=>?_;refine qc3 aj fun bm bn bo bs bt bu=>?_)|((with_reducible refine gate_callee (f:=33) rfl ?_);refine goesL_ (some 7) rfl rfl Try.func33 (by kernel_rfl) rfl #[.agg #[.slice ak ab.length aq,.slice al ac.length ar,.slice am ad.length au],.agg #[.slice an ae.length av,.slice ao af.length aw,.slice ap ag.length ax]] rfl (by (try simp only [List.map_toArray,List.map_cons,List.map_nil]);(rfl)) ?_;(with_reducible refine (rgSameBlock.calls k _ _ ab _ _ ac _ _ ad _ _ ae _ _ af _ _ ag aK _ ?ba ?bb ?bc ?bd ?be ?bf ?bg ?bh ?bi ?aX ?aY ?aZ A3.out).mono ?_);(case ba=>exact (Kd.C_below aR.out HB.out));(case bb=>exact aL.out);(case bc=>exact (Kd.C_below aS.out HB.out));(case bd=>exact aM.out);(case be=>exact (Kd.C_below aT.out HB.out));(case bf=>exact aN.out);(case bg=>exact (Kd.C_below aU.out HB.out));(case bh=>exact aO.out);(case bi=>exact (Kd.C_below aV.out HB.out));(case aX=>exact aP.out);(case aY=>exact (Kd.C_below aW.out HB.out));(case aZ=>exact aQ.out);rintro e w9 ⟨rfl,hb⟩;refine ⟨_,rfl,?_⟩;replace aa:=qb aa hb;replace aj:=qb aj hb;replace HB:=qs HB hb;(try clear hb)))
 go_ret
 exact ⟨by (rfl),HB.out⟩
end Go.Proofs.Ytedghbjmhcgilaa.POpt
end
