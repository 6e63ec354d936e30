import Derived.Test.YtedghbjmhcgilaaKp5
set_option linter.unusedVariables false
set_option linter.unusedSimpArgs false
section
namespace Go.Proofs.Ytedghbjmhcgilaa.POpt
open Go.RowKit Go.Proofs.YtedghbjmhcgilaaW.PrintWords Go.Proofs.YtedghbjmhcgilaaW.PrintLast Go.Proofs.YtedghbjmhcgilaaW.PrintMore
mutual
def rfTables.j0:Nat→Bool→List (S35)→List (S35)→List (S37)→List (S35)→List (S35)→List (S37)→Option ((List (S35)) × (List (S35)) × (List (S37)))
  | 0,_,_,_,_,_,_,_=>none
  | k+1,x28,x268000,x268001,x268002,x279000,x279001,x279002=>if x28=true then (some (x279000,x279001,x279002)) else (rfTables.l0 k 1 x268000 x268001 x268002 x279000 x279001 x279002)
def rfTables.l0:Nat→Int→List (S35)→List (S35)→List (S37)→List (S35)→List (S35)→List (S37)→Option ((List (S35)) × (List (S35)) × (List (S37)))
  | 0,_,_,_,_,_,_,_=>none
  | k+1,x4,x268000,x268001,x268002,x279000,x279001,x279002=>if 0≤x4 then (if x4 < (x268000.length:Int) then (if ((rdQ x268000 x4).f0)=2 then (rfTables.l1 k x4 ((rdQ x268000 x4).f1) ([]:List (S37)) false 0 x268000 x268001 x268002 x279000 x279001 x279002) else (if 1 < (x279000.length:Int) then (some ((x279000.set (1:Int).toNat (⟨3,x4,0,0,0⟩:S35)),x279001,x279002)) else (none))) else (none)) else (none)
def rfTables.l1:Nat→Int→Int→List (S37)→Bool→Int→List (S35)→List (S35)→List (S37)→List (S35)→List (S35)→List (S37)→Option ((List (S35)) × (List (S35)) × (List (S37)))
  | 0,_,_,_,_,_,_,_,_,_,_,_=>none
  | k+1,x4,x5,x6,x7,x8,x268000,x268001,x268002,x279000,x279001,x279002=>if x8 < (x279002.length:Int) then (if 0≤x8 then (if ((rdR x279002 x8).f0)=x5 then (if ((rdR x279002 x8).f0) > x5 then (if x6.length < 8796093022208 then (rfTables.l1 k x4 x5 (x6 ++ [(⟨(rdR x279002 x8).f0,(rdR x279002 x8).f1⟩:S37)]) true (wrap64 (x8+1)) x268000 x268001 x268002 x279000 x279001 x279002) else (none)) else (if x6.length < 8796093022208 then (rfTables.l1 k x4 x5 (x6 ++ [(⟨(rdR x279002 x8).f0,(rdR x279002 x8).f1⟩:S37)]) true (wrap64 (x8+1)) x268000 x268001 x268002 x279000 x279001 x279002) else (none))) else (if ((rdR x279002 x8).f0) > x5 then (if x7=true then (if x6.length < 8796093022208 then (rfTables.l1 k x4 x5 (x6 ++ [(⟨(rdR x279002 x8).f0,(rdR x279002 x8).f1⟩:S37)]) x7 (wrap64 (x8+1)) x268000 x268001 x268002 x279000 x279001 x279002) else (none)) else (if x6.length < 8796093022208 then ((some (x6 ++ [(⟨x5,wrap64 (x4+1)⟩:S37)]:List (S37))).bind fun y303=>(if y303.length < 8796093022208 then (rfTables.l1 k x4 x5 (y303 ++ [(⟨(rdR x279002 x8).f0,(rdR x279002 x8).f1⟩:S37)]) true (wrap64 (x8+1)) x268000 x268001 x268002 x279000 x279001 x279002) else (none))) else (none))) else (if x6.length < 8796093022208 then (rfTables.l1 k x4 x5 (x6 ++ [(⟨(rdR x279002 x8).f0,(rdR x279002 x8).f1⟩:S37)]) x7 (wrap64 (x8+1)) x268000 x268001 x268002 x279000 x279001 x279002) else (none)))) else (none)) else (if x7=true then (if 0≤x4 then (if x4 < (x268000.length:Int) then (rfTables.l0 k ((rdQ x268000 x4).f2) x268000 x268001 x268002 x279000 x279001 x6) else (none)) else (none)) else (if x6.length < 8796093022208 then (if 0≤x4 then (if x4 < (x268000.length:Int) then (rfTables.l0 k ((rdQ x268000 x4).f2) x268000 x268001 x268002 x279000 x279001 (x6 ++ [(⟨x5,wrap64 (x4+1)⟩:S37)])) else (none)) else (none)) else (none)))
end
def rfTables.f (k:Nat) (l0_0:List (S35)) (l0_1:List (S35)) (l0_2:List (S37)):Option ((List (S35)) × (List (S35)) × (List (S37))):=(rfcopied.f l0_0 l0_1 l0_2).bind fun bt269=>(if (l0_2.length:Int) > 0 then (rfTables.j0 k true l0_0 l0_1 l0_2 bt269.1 bt269.2.1 bt269.2.2) else (if (l0_0.length:Int) < 2 then (rfTables.j0 k true l0_0 l0_1 l0_2 bt269.1 bt269.2.1 bt269.2.2) else (if 1 < (l0_0.length:Int) then (rfTables.j0 k (((rdQ l0_0 1).f0) != 2) l0_0 l0_1 l0_2 bt269.1 bt269.2.1 bt269.2.2) else (none))))
theorem rfTables.mono_l:∀ k,(∀ y0 y1 y2 y3 y4 y5 y6,LeO (rfTables.j0 k y0 y1 y2 y3 y4 y5 y6) (rfTables.j0 (k+1) y0 y1 y2 y3 y4 y5 y6))∧(∀ y0 y1 y2 y3 y4 y5 y6,LeO (rfTables.l0 k y0 y1 y2 y3 y4 y5 y6) (rfTables.l0 (k+1) y0 y1 y2 y3 y4 y5 y6))∧(∀ y0 y1 y2 y3 y4 y5 y6 y7 y8 y9 y10,LeO (rfTables.l1 k y0 y1 y2 y3 y4 y5 y6 y7 y8 y9 y10) (rfTables.l1 (k+1) y0 y1 y2 y3 y4 y5 y6 y7 y8 y9 y10))
  | 0=>⟨fun _ _ _ _ _ _ _ r h=>by simp [rfTables.j0] at h,fun _ _ _ _ _ _ _ r h=>by simp [rfTables.l0] at h,fun _ _ _ _ _ _ _ _ _ _ _ r h=>by simp [rfTables.l1] at h⟩
  | k+1=>by
    obtain ⟨ih0,ih1,ih2⟩:=rfTables.mono_l k
    refine ⟨?_,?_,?_⟩
    · intro y0 y1 y2 y3 y4 y5 y6
      unfold rfTables.j0
      repeat' first | (with_reducible exact ih1 _ _ _ _ _ _ _) | (with_reducible exact LeO.refl _) | (with_reducible refine LeO.ite ?_ ?_)
    · intro y0 y1 y2 y3 y4 y5 y6
      unfold rfTables.l0
      repeat' first | (with_reducible exact ih2 _ _ _ _ _ _ _ _ _ _ _) | (with_reducible exact LeO.refl _) | (with_reducible refine LeO.ite ?_ ?_)
    · intro y0 y1 y2 y3 y4 y5 y6 y7 y8 y9 y10
      unfold rfTables.l1
      repeat' first | (with_reducible exact ih1 _ _ _ _ _ _ _) | (with_reducible exact ih2 _ _ _ _ _ _ _ _ _ _ _) | (with_reducible exact LeO.refl _) | (with_reducible refine LeO.ite ?_ ?_) | (with_reducible refine LeO.bind ?_ (fun _=>?_))
theorem rfTables.mono:∀ a0 a1 a2 k,LeO (rfTables.f k a0 a1 a2) (rfTables.f (k+1) a0 a1 a2):=by
  intro a0 a1 a2 k
  obtain ⟨ih0,ih1,ih2⟩:=rfTables.mono_l k
  unfold rfTables.f
  repeat' first | (with_reducible exact ih0 _ _ _ _ _ _ _) | (with_reducible exact LeO.refl _) | (with_reducible refine LeO.ite ?_ ?_) | (with_reducible refine LeO.bind ?_ (fun _=>?_))
set_option maxHeartbeats 8000000 in
set_option maxRecDepth 100000 in
theorem rfTables.calls (k:Nat) (co:Option Addr) (bE:Nat) (am:List (S35)) (bC:Option Addr) (bF:Nat) (aM:List (S35)) (bD:Option Addr) (bG:Nat) (aK:List (S37)) (r1:List (S35)) (r2:List (S35)) (r3:List (S37)) (w:World) (ds:Kd.C k35 w co am.length am) (dp:am.length≤bE) (dt:Kd.C k35 w bC aM.length aM) (dq:aM.length≤bF) (du:Kd.C k37 w bD aK.length aK) (dr:aK.length≤bG) (h:rfTables.f k am aM aK=some (r1,r2,r3)) :
    Calls Try.prog 12 #[.agg #[.slice co am.length bE,.slice bC aM.length bF,.slice bD aK.length bG]] w fun e w'=>∃ iM iO kH:Value,e=.returned (.agg #[iM,iO,kH])∧Kd.R k35 35 w' w.heap.size (fun k_=>some k_≠(iO:Value).ownBlock) iM r1∧Kd.R k35 35 w' w.heap.size (fun k_=>some k_≠(iM:Value).ownBlock) iO r2∧Kd.R k37 37 w' w.heap.size (fun _=>True) kH r3∧Below w.heap.size w w':=by
 have kQ:=Try.underlying30
 have kS:=Try.underlying37
 have kR:=Try.underlying35
 have aY:=Aside0.mk ds
 have dT:=Aside0.mk dp
 clear ds dp
 have ec:=Aside0.mk dt
 have dU:=Aside0.mk dq
 clear dt dq
 have ed:=Aside0.mk du
 have dV:=Aside0.mk dr
 clear du dr
 have HB:=Aside0.mk (Below.refl w.heap.size w)
 have H:((rfcopied.f am aM aK).bind fun aZ=>(if (aK.length:Int) > 0 then (rfTables.j0 k true am aM aK aZ.1 aZ.2.1 aZ.2.2) else (if (am.length:Int) < 2 then (rfTables.j0 k true am aM aK aZ.1 aZ.2.1 aZ.2.2) else (if 1 < (am.length:Int) then (rfTables.j0 k (((rdQ am 1).f0) != 2) am aM aK aZ.1 aZ.2.1 aZ.2.2) else (none)))))=some (r1,r2,r3):=h
 clear h
 replace H:=Option.bind_eq_some_iff.mp H
 obtain ⟨⟨aj,ar,aW⟩,iX,H⟩:=H
 try dsimp only at H
 have A2:=Aside0.mk iX
 clear iX
 have hU:=Aside0.mk H
 clear H
 go_enter Try.func12,Try.ntmps12
 go_upto_region 2 with (first | ((with_reducible refine gate_dst (N:=1) rfl ?_);(try (refine gate_guard (by rfl) ?_;dsimp only));refine box_event ?hg (N:=1) ?hd (cs:=#[.slice co am.length bE,.slice bC aM.length bF,.slice bD aK.length bG]) (t:=30) ?hr ?_;(case hd=>rfl);(case hg=>rfl);(case hr=>(go_simp;done));intro cv hg w4 hbox hb;have af:=Aside0.mk hbox;have iZ:=qz HB hg;have iY:=qz HB hg;replace HB:=qs HB hb;clear hb hbox hg)|((with_reducible refine gate_dst (N:=2) rfl ?_);(try (refine gate_guard (by rfl) ?_;dsimp only));refine box_event ?hg (N:=2) ?hd (cs:=#[.slice none 0 0,.slice none 0 0,.slice none 0 0]) (t:=30) ?hr ?_;(case hd=>rfl);(case hg=>rfl);(case hr=>(go_simp;done));intro aw hg w5 hbox hb;have ah:=Aside0.mk hbox;have ja:=qz HB hg;have df:=qz HB hg;replace HB:=qs HB hb;have ay:=qn af hg;have az:=qN af hg;replace af:=qb af hb;clear hb hbox hg;have kO:=ay.out;have kP:=az.out;refine qc3 af fun dy dz dA dB dC dD=>?_)|((with_reducible refine gate_callee (f:=37) rfl ?_);refine goesL_ (some 10) rfl rfl Try.func37 (by kernel_rfl) rfl #[.agg #[.slice co am.length bE,.slice bC aM.length bF,.slice bD aK.length bG]] rfl (by (try simp only [List.map_toArray,List.map_cons,List.map_nil]);(rfl)) ?_;(with_reducible refine (rfcopied.calls _ _ am _ _ aM _ _ aK aj ar aW _ ?hN ?hO ?hP ?hQ ?hR ?hS A2.out).mono ?_);(case hN=>exact (Kd.C_below aY.out HB.out));(case hO=>exact dT.out);(case hP=>exact (Kd.C_below ec.out HB.out));(case hQ=>exact dU.out);(case hR=>exact (Kd.C_below ed.out HB.out));(case hS=>exact dV.out);rintro e w8 ⟨ld,le,lf,rfl,kB,kC,kD,hb⟩;refine ⟨_,rfl,?_⟩;have bi:=ql kB HB;have bj:=ql kC HB;have bk:=ql kD HB;replace af:=qb af hb;replace ah:=qb ah hb;replace HB:=qs HB hb;(try clear hb);(try clear kB);(try clear kC);(try clear kD))|((with_reducible refine gate_dst (N:=3) rfl ?_);(try (refine gate_guard (by rfl) ?_;dsimp only));refine box_event ?hg (N:=3) ?hd (cs:=#[.slice none 0 0,.slice none 0 0,.slice none 0 0]) (t:=30) ?hr ?_;(case hd=>rfl);(case hg=>rfl);(case hr=>(go_simp;done));intro ax hg w9 hbox hb;replace bi:=qB bi hb;replace bj:=qB bj hb;replace bk:=qB bk hb;have ae:=Aside0.mk hbox;have bz:=qz HB hg;have bx:=qz HB hg;replace HB:=qs HB hb;have ai:=qn af hg;have al:=qN af hg;replace af:=qb af hb;have ak:=qn ah hg;have av:=qN ah hg;replace ah:=qb ah hb;clear hb hbox hg;obtain ⟨aJ,au,io⟩:=Kd.R_slice bi.out;subst io;have ju:=al.out;have jX:=ai.out;have jv:=av.out;have jY:=ak.out;refine qc3 ae fun cF cG cH cL cM cN=>?_;obtain ⟨aG,aH,ip⟩:=Kd.R_slice bj.out;subst ip;obtain ⟨bd,be,iq⟩:=Kd.R_slice bk.out;subst iq))
 (try simp only [Act.put,s1,s2,s3])
 go_cut [28] (fun lg wc=>∃ (kq:Nat) (cn:Bool),lg=.bool cn∧Aside0 (rfTables.j0 kq cn am aM aK aj ar aW=some (r1,r2,r3))∧Aside0 (kq≤k)∧Aside0 (Kd.R k35 35 wc w.heap.size (fun k_=>some k_≠((.slice aG ar.length aH):Value).ownBlock) (.slice aJ aj.length au) aj)∧Aside0 (Kd.R k35 35 wc w.heap.size (fun k_=>some k_≠((.slice aJ aj.length au):Value).ownBlock) (.slice aG ar.length aH) ar)∧Aside0 (Kd.R k37 37 wc w.heap.size (fun _=>True) (.slice bd aW.length be) aW)∧Aside0 (wc.heap[cv]?=some (.cells #[(.slice co am.length bE),(.slice bC aM.length bF),(.slice bD aK.length bG)] 30 (0,0)))∧Aside0 (wc.heap[aw]?=some (.cells #[(.slice none 0 0),(.slice none 0 0),(.slice none 0 0)] 30 (0,0)))∧Aside0 (wc.heap[ax]?=some (.cells #[(.slice aJ aj.length au),(.slice aG ar.length aH),(.slice bd aW.length be)] 30 (0,0)))∧Aside0 (Below w.heap.size w wc))
 case first =>
  have H:=hU.out
  clear hU
  by_cases dK:(aK.length:Int) > 0
  ·rw [if_pos dK] at H
   have eC:decide (0 < (aK.length:Int))=true:=decide_eq_true dK
   have eD:decide (0 < aK.length)=true:=decide_eq_true (by omega)
   clear dK
   have H':=Aside0.mk H
   clear H
   have jw:=ay.out
   have jZ:=az.out
   have jx:=ai.out
   have ka:=al.out
   refine qc3 af fun fG fH fI gB gC gD=>?_
   go_wp2
   go_meet
   case rel=>exact ⟨_,(true),rfl,H',⟨by omega⟩,zR bi ae (by decide) kb3,zR bj ae (by decide) kb3,zRm bk ae (by decide) kb3 (fun _ _=>trivial),zb af ai.out kb3,zb ah ak.out kb3,⟨by refine blk_put (cs:=#[.slice aJ aj.length au,.slice aG ar.length aH,.slice none 0 0]) ?_ 2 _ rfl;refine blk_put (cs:=#[.slice aJ aj.length au,.slice none 0 0,.slice none 0 0]) ?_ 1 _ rfl;refine blk_put (cs:=#[.slice none 0 0,.slice none 0 0,.slice none 0 0]) ?_ 0 _ rfl;exact ae.out⟩,⟨by repeat ((with_reducible first | exact HB.out | refine b_st ?_ bx.out))⟩⟩
  rw [if_neg dK] at H
  have eC:decide (0 < (aK.length:Int))=false:=decide_eq_false dK
  have eD:decide (0 < aK.length)=false:=decide_eq_false (by omega)
  clear dK
  by_cases dL:(am.length:Int) < 2
  ·rw [if_pos dL] at H
   have eE:=decide_eq_true dL
   have eF:decide (am.length < 2)=true:=decide_eq_true (by omega)
   clear dL
   have H':=Aside0.mk H
   clear H
   have jy:=ay.out
   have kb:=az.out
   have jz:=ai.out
   have kc:=al.out
   refine qc3 af fun fJ fK fL gE gF gG=>?_
   go_wp2
   go_meet
   case rel=>exact ⟨_,(true),rfl,H',⟨by omega⟩,zR bi ae (by decide) kb3,zR bj ae (by decide) kb3,zRm bk ae (by decide) kb3 (fun _ _=>trivial),zb af ai.out kb3,zb ah ak.out kb3,⟨by refine blk_put (cs:=#[.slice aJ aj.length au,.slice aG ar.length aH,.slice none 0 0]) ?_ 2 _ rfl;refine blk_put (cs:=#[.slice aJ aj.length au,.slice none 0 0,.slice none 0 0]) ?_ 1 _ rfl;refine blk_put (cs:=#[.slice none 0 0,.slice none 0 0,.slice none 0 0]) ?_ 0 _ rfl;exact ae.out⟩,⟨by repeat ((with_reducible first | exact HB.out | refine b_st ?_ bx.out))⟩⟩
  rw [if_neg dL] at H
  have eE:=decide_eq_false dL
  have eF:decide (am.length < 2)=false:=decide_eq_false (by omega)
  clear dL
  replace H:=iN H
  obtain ⟨jb,H⟩:=H
  have jc:=decide_eq_true jb
  have jd:decide (1 < am.length)=true:=decide_eq_true (by omega)
  clear jb
  have H':=Aside0.mk H
  clear H
  have jA:=ay.out
  have kd:=az.out
  have jB:=ai.out
  have ke:=al.out
  refine qc3 af fun fM fN fO gH gI gJ=>?_
  have dF:0≤(1:Int):=(by omega)
  have dH:1 < (am.length:Int):=od
  obtain ⟨cr,ic,aq,aA,aC,aD,aE⟩:=at_T35 aY.out 1 dF dH
  cases ic
  (try simp only [show (1:Int).toNat=1 from rfl,Nat.reduceMul,Nat.reduceEqDiff,Go.Addr.add,↓reduceIte] at aq)
  (try simp only [show (1:Int).toNat=1 from rfl,Nat.reduceMul,Nat.reduceEqDiff,Go.Addr.add,↓reduceIte] at aA)
  (try simp only [show (1:Int).toNat=1 from rfl,Nat.reduceMul,Nat.reduceEqDiff,Go.Addr.add,↓reduceIte] at aC)
  (try simp only [show (1:Int).toNat=1 from rfl,Nat.reduceMul,Nat.reduceEqDiff,Go.Addr.add,↓reduceIte] at aD)
  (try simp only [show (1:Int).toNat=1 from rfl,Nat.reduceMul,Nat.reduceEqDiff,Go.Addr.add,↓reduceIte] at aE)
  have kG:(1 < am.length)=True:=eq_true (by omega)
  (try rw [show ((1:Int)).toNat=1 from rfl] at aq)
  (try rw [show 1*5=5 from rfl] at aq)
  (try rw [show ((1:Int)).toNat=1 from rfl] at aA)
  (try rw [show 1*5=5 from rfl] at aA)
  (try rw [show ((1:Int)).toNat=1 from rfl] at aC)
  (try rw [show 1*5=5 from rfl] at aC)
  (try rw [show ((1:Int)).toNat=1 from rfl] at aD)
  (try rw [show 1*5=5 from rfl] at aD)
  (try rw [show ((1:Int)).toNat=1 from rfl] at aE)
  (try rw [show 1*5=5 from rfl] at aE)
  have aQ:cr.block≠ax:=Nat.ne_of_lt (Nat.lt_of_lt_of_le (by have:=World.block_lt_of_cell? _ _ aq;(exact this)) bz.out)
  have aR:cr.block≠ax:=Nat.ne_of_lt (Nat.lt_of_lt_of_le (by have:=World.block_lt_of_cell? _ _ aq;(exact this)) bz.out)
  have aT:cr.block≠ax:=Nat.ne_of_lt (Nat.lt_of_lt_of_le (by have:=World.block_lt_of_cell? _ _ aq;(exact this)) bz.out)
  replace aq:=(HB.out.cell (World.block_lt_of_cell? w _ aq)).trans aq
  replace aA:=(HB.out.cell (World.block_lt_of_cell? w _ aA)).trans aA
  replace aC:=(HB.out.cell (World.block_lt_of_cell? w _ aC)).trans aC
  replace aD:=(HB.out.cell (World.block_lt_of_cell? w _ aD)).trans aD
  replace aE:=(HB.out.cell (World.block_lt_of_cell? w _ aE)).trans aE
  replace aq:=(cell_far (p:=⟨ax,0,none⟩) (by (exact aQ)) (.slice aJ aj.length au)).trans aq
  replace aA:=(cell_far (p:=⟨ax,0,none⟩) (by (exact aQ)) (.slice aJ aj.length au)).trans aA
  replace aC:=(cell_far (p:=⟨ax,0,none⟩) (by (exact aQ)) (.slice aJ aj.length au)).trans aC
  replace aD:=(cell_far (p:=⟨ax,0,none⟩) (by (exact aQ)) (.slice aJ aj.length au)).trans aD
  replace aE:=(cell_far (p:=⟨ax,0,none⟩) (by (exact aQ)) (.slice aJ aj.length au)).trans aE
  replace aq:=(cell_far (p:=⟨ax,1,none⟩) (by (exact aR)) (.slice aG ar.length aH)).trans aq
  replace aA:=(cell_far (p:=⟨ax,1,none⟩) (by (exact aR)) (.slice aG ar.length aH)).trans aA
  replace aC:=(cell_far (p:=⟨ax,1,none⟩) (by (exact aR)) (.slice aG ar.length aH)).trans aC
  replace aD:=(cell_far (p:=⟨ax,1,none⟩) (by (exact aR)) (.slice aG ar.length aH)).trans aD
  replace aE:=(cell_far (p:=⟨ax,1,none⟩) (by (exact aR)) (.slice aG ar.length aH)).trans aE
  replace aq:=(cell_far (p:=⟨ax,2,none⟩) (by (exact aT)) (.slice bd aW.length be)).trans aq
  replace aA:=(cell_far (p:=⟨ax,2,none⟩) (by (exact aT)) (.slice bd aW.length be)).trans aA
  replace aC:=(cell_far (p:=⟨ax,2,none⟩) (by (exact aT)) (.slice bd aW.length be)).trans aC
  replace aD:=(cell_far (p:=⟨ax,2,none⟩) (by (exact aT)) (.slice bd aW.length be)).trans aD
  replace aE:=(cell_far (p:=⟨ax,2,none⟩) (by (exact aT)) (.slice bd aW.length be)).trans aE
  clear aQ
  clear aR
  clear aT
  replace dF:=eq_true dF
  replace dH:=eq_true dH
  go_wp2
  go_meet
  case rel=>exact ⟨_,((((rdQ am 1).f0) != 2)),rfl,H',⟨by omega⟩,zR bi ae (by decide) kb3,zR bj ae (by decide) kb3,zRm bk ae (by decide) kb3 (fun _ _=>trivial),zb af ai.out kb3,zb ah ak.out kb3,⟨by refine blk_put (cs:=#[.slice aJ aj.length au,.slice aG ar.length aH,.slice none 0 0]) ?_ 2 _ rfl;refine blk_put (cs:=#[.slice aJ aj.length au,.slice none 0 0,.slice none 0 0]) ?_ 1 _ rfl;refine blk_put (cs:=#[.slice none 0 0,.slice none 0 0,.slice none 0 0]) ?_ 0 _ rfl;exact ae.out⟩,⟨by repeat ((with_reducible first | exact HB.out | refine b_st ?_ bx.out))⟩⟩
 clear hU
 clear cF cG cH dy dz dA cL cM cN dB dC dD
 obtain ⟨kq,cn,rfl,HA,bI,ac,ad,ab,af,ah,ae,HB⟩:=hcut
 obtain _ | kE:=kq
 ·exact absurd HA.out (by simp [rfTables.j0])
 have H:=HA.out
 clear HA
 simp only [rfTables.j0] at H
 by_cases fD:cn=true
 ·subst fD
  replace H:=iP H
  simp only [Option.some.injEq,Prod.mk.injEq] at H
  obtain ⟨rfl,rfl,rfl⟩:=H
  have jC:=al.out
  have kf:=ai.out
  have jD:=av.out
  have kg:=ak.out
  refine qc3 ae fun fP fQ fR gK gL gM=>?_
  have jE:=az.out
  have kh:=ay.out
  refine qc3 ah fun fS fT fU gN gO gP=>?_
  go_wp2
  refine bodyPost_ret (results_cell_row rfl _ _ aw 30 #[.slice aJ aj.length au,.slice aG ar.length aH,.slice bd aW.length be] (0,0) _ rfl (by refine blk_put (cs:=#[.slice aJ aj.length au,.slice aG ar.length aH,.slice none 0 0]) ?_ 2 _ rfl;refine blk_put (cs:=#[.slice aJ aj.length au,.slice none 0 0,.slice none 0 0]) ?_ 1 _ rfl;refine blk_put (cs:=#[.slice none 0 0,.slice none 0 0,.slice none 0 0]) ?_ 0 _ rfl;exact ah.out) Try.underlying30 rfl (by kernel_rfl)) rfl ?_
  exact ⟨_,_,_,by (rfl),by exact Kd.R_mono (Kd.R_far (p:=⟨aw,2,none⟩) (Kd.R_far (p:=⟨aw,1,none⟩) (Kd.R_far (p:=⟨aw,0,none⟩) (Kd.R_types ac.out ah.out (by decide)) (fun _ hk=>hk.2) (.slice aJ aj.length au)) (fun _ hk=>hk.2) (.slice aG ar.length aH)) (fun _ hk=>hk.2) (.slice bd aW.length be)) (fun _ hk=>hk.1),by exact Kd.R_mono (Kd.R_far (p:=⟨aw,2,none⟩) (Kd.R_far (p:=⟨aw,1,none⟩) (Kd.R_far (p:=⟨aw,0,none⟩) (Kd.R_types ad.out ah.out (by decide)) (fun _ hk=>hk.2) (.slice aJ aj.length au)) (fun _ hk=>hk.2) (.slice aG ar.length aH)) (fun _ hk=>hk.2) (.slice bd aW.length be)) (fun _ hk=>hk.1),by exact Kd.R_mono (Kd.R_far (p:=⟨aw,2,none⟩) (Kd.R_far (p:=⟨aw,1,none⟩) (Kd.R_far (p:=⟨aw,0,none⟩) (Kd.R_types ab.out ah.out (by decide)) (fun _ hk=>hk.2) (.slice aJ aj.length au)) (fun _ hk=>hk.2) (.slice aG ar.length aH)) (fun _ hk=>hk.2) (.slice bd aW.length be)) (fun _ hk=>trivial),by repeat ((with_reducible first | exact HB.out | refine b_st ?_ df.out))⟩
 replace fD:=Bool.eq_false_iff.mpr fD
 subst fD
 replace H:=iF H
 have H':=Aside0.mk H
 clear H
 go_wp2
 go_loopg [4] kE (fun kq v4 w'=>∃ (an:Int) (aa:List (S37)) (u279002:Value),v4=.int .i64 an∧Aside0 (rfTables.l0 kq an am aM aK aj ar aa=some (r1,r2,r3))∧Aside0 (kq≤kE)∧Aside0 (Kd.R k35 35 w' w.heap.size (fun k_=>some k_≠((.slice aG ar.length aH):Value).ownBlock) (.slice aJ aj.length au) aj)∧Aside0 (Kd.R k35 35 w' w.heap.size (fun k_=>some k_≠((.slice aJ aj.length au):Value).ownBlock) (.slice aG ar.length aH) ar)∧Aside0 (Kd.R k37 37 w' w.heap.size (fun _=>True) u279002 aa)∧Aside0 (w'.heap[cv]?=some (.cells #[(.slice co am.length bE),(.slice bC aM.length bF),(.slice bD aK.length bG)] 30 (0,0)))∧Aside0 (w'.heap[aw]?=some (.cells #[(.slice none 0 0),(.slice none 0 0),(.slice none 0 0)] 30 (0,0)))∧Aside0 (w'.heap[ax]?=some (.cells #[(.slice aJ aj.length au),(.slice aG ar.length aH),u279002] 30 (0,0)))∧Aside0 (Below w.heap.size w w'))
 case atStart=>exact ⟨(1),(aW),(.slice bd aW.length be),rfl,H',⟨Nat.le_refl _⟩,ac,ad,ab,af,ah,ae,HB⟩
 clear H'
 obtain ⟨an,aa,u279002,rfl,HA,bJ,ac,ad,ab,af,ah,ae,HB⟩:=hrel
 obtain _ | k2:=gk
 ·exact absurd HA.out (by simp [rfTables.l0])
 have H:=HA.out
 clear HA
 simp only [rfTables.l0] at H
 replace H:=iNd H
 obtain ⟨eG,H⟩:=H
 replace H:=iNd H
 obtain ⟨eH,H⟩:=H
 by_cases eI:((rdQ am an).f0)=2
 ·rw [if_pos eI] at H
  obtain ⟨di,dj⟩:=cBt eI
  clear eI
  have H':=Aside0.mk H
  clear H
  have jF:=ay.out
  have ki:=az.out
  have jG:=ai.out
  have kj:=al.out
  refine qc3 af fun cI cJ cK cO cP cQ=>?_
  obtain ⟨bA,dv,fz,fB,bW,bX,bY,bZ,ca⟩:=rd35 aY HB an
  cases dv
  obtain ⟨et,ie,iI,iK,cR,cS,cT,cU,cV⟩:=rd35 aY HB an
  obtain rfl:bA=et:=(by injection ie)
  go_wp2
  go_loopg [6,7,8] k2 (fun kq v6 v7 v8 w'=>∃ (aN:List (S37)) (cp:Bool) (ag:Int),v7=.bool cp∧v8=.int .i64 ag∧Aside0 (rfTables.l1 kq an ((rdQ am an).f1) aN cp ag am aM aK aj ar aa=some (r1,r2,r3))∧Aside0 (kq≤k2)∧Aside0 (Kd.R k37 37 w' w.heap.size (fun k_=>some k_≠(u279002:Value).ownBlock) v6 aN)∧Aside0 (Kd.R k35 35 w' w.heap.size (fun k_=>some k_≠((.slice aG ar.length aH):Value).ownBlock) (.slice aJ aj.length au) aj)∧Aside0 (Kd.R k35 35 w' w.heap.size (fun k_=>some k_≠((.slice aJ aj.length au):Value).ownBlock) (.slice aG ar.length aH) ar)∧Aside0 (Kd.R k37 37 w' w.heap.size (fun k_=>some k_≠(v6:Value).ownBlock) u279002 aa)∧Aside0 (w'.heap[cv]?=some (.cells #[(.slice (some bA) am.length bE),(.slice bC aM.length bF),(.slice bD aK.length bG)] 30 (0,0)))∧Aside0 (w'.heap[aw]?=some (.cells #[(.slice none 0 0),(.slice none 0 0),(.slice none 0 0)] 30 (0,0)))∧Aside0 (w'.heap[ax]?=some (.cells #[(.slice aJ aj.length au),(.slice aG ar.length aH),u279002] 30 (0,0)))∧Aside0 (Below w.heap.size w w'))
  case atStart=>exact ⟨(([]:List (S37))),(false),(0),rfl,rfl,H',⟨Nat.le_refl _⟩,⟨by (exact Kd.R_nil _ _ _ _ _)⟩,ac,ad,⟨by exact Kd.R_mono ab.out (fun _ hk=>(by simp [Value.ownBlock]))⟩,af,ah,ae,HB⟩
  clear H'
  clear eG eH di dj cI cJ cK cO cP cQ bW bX bY bZ ca cR cS cT cU cV fz iI fB iK
  obtain ⟨aN,cp,ag,rfl,rfl,HA,bK,ao,ac,ad,ab,af,ah,ae,HB⟩:=hrel
  obtain _ | k3:=gk
  ·exact absurd HA.out (by simp [rfTables.l1])
  have H:=HA.out
  clear HA
  simp only [rfTables.l1] at H
  by_cases dM:ag < (aa.length:Int)
  ·rw [if_pos dM] at H
   have eJ:=decide_eq_true dM
   clear dM
   replace H:=iNd H
   obtain ⟨je,H⟩:=H
   by_cases eK:((rdR aa ag).f0)=((rdQ am an).f1)
   ·rw [if_pos eK] at H
    obtain ⟨eL,eM⟩:=cBt eK
    clear eK
    by_cases dN:((rdR aa ag).f0) > ((rdQ am an).f1)
    ·rw [if_pos dN] at H
     have eN:decide (((rdQ am an).f1) < ((rdR aa ag).f0))=true:=decide_eq_true dN
     clear dN
     replace H:=iN H
     obtain ⟨jf,H⟩:=H
     have ee:=Aside0.mk jf
     clear jf
     obtain ⟨iS,cz⟩:∃ y_:List (S37),y_=(aN ++ [(⟨(rdR aa ag).f0,(rdR aa ag).f1⟩:S37)]):=⟨_,rfl⟩
     rw [← cz] at H
     have en:=Aside0.mk cz
     clear cz
     have H':=Aside0.mk H
     clear H
     have jH:=al.out
     have kk:=ai.out
     have jI:=av.out
     have kl:=ak.out
     refine qc3 ae fun fV fW fX gQ gR gS=>?_
     obtain ⟨kI,hX,ir⟩:=Kd.R_slice ab.out
     subst ir
     obtain ⟨aI,bl,da,dd,bf,bg⟩:=ro37 ab ag
     cases bl
     obtain ⟨ct,dw,iJ,iL,cW,cX⟩:=ro37 ab ag
     obtain rfl:aI=ct:=(by injection dw)
     obtain ⟨ew,ii,kT,kY,hC,hD⟩:=ro37 ab ag
     obtain rfl:aI=ew:=(by injection ii)
     go_wp2_with (((with_reducible refine gate_builtin (b:=.append) (xs:=#[.tmp 77,.tmp 83]) rfl ?_);(try (refine gate_guard (by rfl) ?_;dsimp only));at_builtin;refine Kd.R_append k37 (w0:=w) w.heap.size rfl (.tmp 77) (.tmp 83) 28 37 (.agg #[(.int .i64 0),(.int .i64 0)]) 16 rfl Try.underlying28 info37 rfl (by decide) (by omega) u6 aN (⟨(rdR aa ag).f0,(rdR aa ag).f1⟩:S37) [.int .i64 ((rdR aa ag).f0),.int .i64 ((rdR aa ag).f1)] (fun k_=>some k_≠(.slice (some aI) aa.length hX:Value).ownBlock) (fun _=>False) rfl rfl ?aP (fun _ hk=>hk.elim) ?aF ?aO ?aB ?aS ?aL ?_;(case aP=>exact k37_mkM _ _ _ (⟨(rdR aa ag).f0,(rdR aa ag).f1⟩:S37));(case aB=>exact HB.out);(case aF=>exact (fun k_ hk=>Kd.fresh' (Kd.R_lt ab.out) k_ hk));(case aO=>exact ao.out);(case aS=>exact (below_size HB.out));(case aL=>have:=ee.out;omega);intro li ln ho hb hg hat;rw [← en.out] at ho;replace ac:=qo ac ao (by decide) hg;replace ad:=qo ad ao (by decide) hg;replace ab:=Aside0.mk (Kd.R_after (ok:=(fun _=>True)) (by exact Kd.R_mono ab.out (fun _ hk=>⟨trivial,hk⟩)) hg hat);replace af:=qg af hg ao (by decide);replace ah:=qg ah hg ao (by decide);replace ae:=qg ae hg ao (by decide);replace HB:=Aside0.mk hb;have dX:=Aside0.mk ho;clear ao;clear ho hb hg hat))
     go_roundg k3
     case measure=>have:=bI.out;have:=bJ.out;have:=bK.out;omega
     case rel=>exact ⟨(iS),(true),(wrap64 (ag+1)),rfl,rfl,H',⟨by have:=bI.out;have:=bJ.out;have:=bK.out;omega⟩,dX,ac,ad,⟨by exact Kd.R_mono ab.out (fun _ hk=>hk.2)⟩,af,ah,ae,HB⟩
    rw [if_neg dN] at H
    have eN:decide (((rdQ am an).f1) < ((rdR aa ag).f0))=false:=decide_eq_false dN
    clear dN
    replace H:=iN H
    obtain ⟨jg,H⟩:=H
    have ef:=Aside0.mk jg
    clear jg
    obtain ⟨iT,cA⟩:∃ y_:List (S37),y_=(aN ++ [(⟨(rdR aa ag).f0,(rdR aa ag).f1⟩:S37)]):=⟨_,rfl⟩
    rw [← cA] at H
    have eo:=Aside0.mk cA
    clear cA
    have H':=Aside0.mk H
    clear H
    have jJ:=al.out
    have km:=ai.out
    have jK:=av.out
    have kn:=ak.out
    refine qc3 ae fun fY fZ ga gT gU gV=>?_
    obtain ⟨kJ,hY,it⟩:=Kd.R_slice ab.out
    subst it
    obtain ⟨aI,bl,da,dd,bf,bg⟩:=ro37 ab ag
    cases bl
    obtain ⟨ct,dw,iJ,iL,cW,cX⟩:=ro37 ab ag
    obtain rfl:aI=ct:=(by injection dw)
    obtain ⟨ex,ij,kU,kZ,hE,hF⟩:=ro37 ab ag
    obtain rfl:aI=ex:=(by injection ij)
    go_wp2_with (((with_reducible refine gate_builtin (b:=.append) (xs:=#[.tmp 77,.tmp 83]) rfl ?_);(try (refine gate_guard (by rfl) ?_;dsimp only));at_builtin;refine Kd.R_append k37 (w0:=w) w.heap.size rfl (.tmp 77) (.tmp 83) 28 37 (.agg #[(.int .i64 0),(.int .i64 0)]) 16 rfl Try.underlying28 info37 rfl (by decide) (by omega) u6 aN (⟨(rdR aa ag).f0,(rdR aa ag).f1⟩:S37) [.int .i64 ((rdR aa ag).f0),.int .i64 ((rdR aa ag).f1)] (fun k_=>some k_≠(.slice (some aI) aa.length hY:Value).ownBlock) (fun _=>False) rfl rfl ?aP (fun _ hk=>hk.elim) ?aF ?aO ?aB ?aS ?aL ?_;(case aP=>exact k37_mkM _ _ _ (⟨(rdR aa ag).f0,(rdR aa ag).f1⟩:S37));(case aB=>exact HB.out);(case aF=>exact (fun k_ hk=>Kd.fresh' (Kd.R_lt ab.out) k_ hk));(case aO=>exact ao.out);(case aS=>exact (below_size HB.out));(case aL=>have:=ef.out;omega);intro lj lo ho hb hg hat;rw [← eo.out] at ho;replace ac:=qo ac ao (by decide) hg;replace ad:=qo ad ao (by decide) hg;replace ab:=Aside0.mk (Kd.R_after (ok:=(fun _=>True)) (by exact Kd.R_mono ab.out (fun _ hk=>⟨trivial,hk⟩)) hg hat);replace af:=qg af hg ao (by decide);replace ah:=qg ah hg ao (by decide);replace ae:=qg ae hg ao (by decide);replace HB:=Aside0.mk hb;have dY:=Aside0.mk ho;clear ao;clear ho hb hg hat))
    go_roundg k3
    case measure=>have:=bI.out;have:=bJ.out;have:=bK.out;omega
    case rel=>exact ⟨(iT),(true),(wrap64 (ag+1)),rfl,rfl,H',⟨by have:=bI.out;have:=bJ.out;have:=bK.out;omega⟩,dY,ac,ad,⟨by exact Kd.R_mono ab.out (fun _ hk=>hk.2)⟩,af,ah,ae,HB⟩
   rw [if_neg eK] at H
   obtain ⟨eL,eM⟩:=cBf eK
   by_cases dO:((rdR aa ag).f0) > ((rdQ am an).f1)
   ·rw [if_pos dO] at H
    have eO:decide (((rdQ am an).f1) < ((rdR aa ag).f0))=true:=decide_eq_true dO
    clear dO
    by_cases fE:cp=true
    ·subst fE
     replace H:=iP H
     replace H:=iN H
     obtain ⟨jh,H⟩:=H
     have eg:=Aside0.mk jh
     clear jh
     obtain ⟨iU,cB⟩:∃ y_:List (S37),y_=(aN ++ [(⟨(rdR aa ag).f0,(rdR aa ag).f1⟩:S37)]):=⟨_,rfl⟩
     rw [← cB] at H
     have ep:=Aside0.mk cB
     clear cB
     have H':=Aside0.mk H
     clear H
     have jL:=al.out
     have ko:=ai.out
     have jM:=av.out
     have kp:=ak.out
     refine qc3 ae fun gb gc gd gW gX gY=>?_
     obtain ⟨kK,hZ,iu⟩:=Kd.R_slice ab.out
     subst iu
     obtain ⟨aI,bl,da,dd,bf,bg⟩:=ro37 ab ag
     cases bl
     obtain ⟨bB,cu,fA,fC,cl,cm⟩:=ro37 ab ag
     obtain rfl:aI=bB:=(by injection cu)
     obtain ⟨ey,ik,kV,la,hG,hH⟩:=ro37 ab ag
     obtain rfl:aI=ey:=(by injection ik)
     go_wp2_with (((with_reducible refine gate_builtin (b:=.append) (xs:=#[.tmp 77,.tmp 83]) rfl ?_);(try (refine gate_guard (by rfl) ?_;dsimp only));at_builtin;refine Kd.R_append k37 (w0:=w) w.heap.size rfl (.tmp 77) (.tmp 83) 28 37 (.agg #[(.int .i64 0),(.int .i64 0)]) 16 rfl Try.underlying28 info37 rfl (by decide) (by omega) u6 aN (⟨(rdR aa ag).f0,(rdR aa ag).f1⟩:S37) [.int .i64 ((rdR aa ag).f0),.int .i64 ((rdR aa ag).f1)] (fun k_=>some k_≠(.slice (some aI) aa.length hZ:Value).ownBlock) (fun _=>False) rfl rfl ?aP (fun _ hk=>hk.elim) ?aF ?aO ?aB ?aS ?aL ?_;(case aP=>exact k37_mkM _ _ _ (⟨(rdR aa ag).f0,(rdR aa ag).f1⟩:S37));(case aB=>exact HB.out);(case aF=>exact (fun k_ hk=>Kd.fresh' (Kd.R_lt ab.out) k_ hk));(case aO=>exact ao.out);(case aS=>exact (below_size HB.out));(case aL=>have:=eg.out;omega);intro lk lp ho hb hg hat;rw [← ep.out] at ho;replace ac:=qo ac ao (by decide) hg;replace ad:=qo ad ao (by decide) hg;replace ab:=Aside0.mk (Kd.R_after (ok:=(fun _=>True)) (by exact Kd.R_mono ab.out (fun _ hk=>⟨trivial,hk⟩)) hg hat);replace af:=qg af hg ao (by decide);replace ah:=qg ah hg ao (by decide);replace ae:=qg ae hg ao (by decide);replace HB:=Aside0.mk hb;have dZ:=Aside0.mk ho;clear ao;clear ho hb hg hat))
     go_roundg k3
     case measure=>have:=bI.out;have:=bJ.out;have:=bK.out;omega
     case rel=>exact ⟨(iU),(true),(wrap64 (ag+1)),rfl,rfl,H',⟨by have:=bI.out;have:=bJ.out;have:=bK.out;omega⟩,dZ,ac,ad,⟨by exact Kd.R_mono ab.out (fun _ hk=>hk.2)⟩,af,ah,ae,HB⟩
    replace fE:=Bool.eq_false_iff.mpr fE
    subst fE
    replace H:=iF H
    replace H:=iN H
    obtain ⟨ji,H⟩:=H
    have eh:=Aside0.mk ji
    clear ji
    obtain ⟨de,cC⟩:∃ y_:List (S37),y_=(aN ++ [(⟨((rdQ am an).f1),wrap64 (an+1)⟩:S37)]):=⟨_,rfl⟩
    replace H:(if de.length < 8796093022208 then (rfTables.l1 k3 an ((rdQ am an).f1) (de ++ [(⟨(rdR aa ag).f0,(rdR aa ag).f1⟩:S37)]) true (wrap64 (ag+1)) am aM aK aj ar aa) else (none))=some (r1,r2,r3):=by (have kN:=(Option.bind_some _ _).symm.trans H;rw [cC];with_reducible exact kN)
    have eq:=Aside0.mk cC
    clear cC
    replace H:=iN H
    obtain ⟨jj,H⟩:=H
    have ei:=Aside0.mk jj
    clear jj
    obtain ⟨iV,cD⟩:∃ y_:List (S37),y_=(de ++ [(⟨(rdR aa ag).f0,(rdR aa ag).f1⟩:S37)]):=⟨_,rfl⟩
    rw [← cD] at H
    have er:=Aside0.mk cD
    clear cD
    have H':=Aside0.mk H
    clear H
    have jN:=al.out
    have kr:=ai.out
    have jO:=av.out
    have ks:=ak.out
    refine qc3 ae fun ge gf gg gZ ha hc=>?_
    obtain ⟨kL,eP,iv⟩:=Kd.R_slice ab.out
    subst iv
    obtain ⟨aI,bl,da,dd,bf,bg⟩:=ro37 ab ag
    cases bl
    obtain ⟨bB,cu,fA,fC,cl,cm⟩:=ro37 ab ag
    obtain rfl:aI=bB:=(by injection cu)
    go_wp2_with (first | ((with_reducible refine gate_builtin (b:=.append) (xs:=#[.tmp 70,.tmp 75]) rfl ?_);(try (refine gate_guard (by rfl) ?_;dsimp only));at_builtin;refine Kd.R_append k37 (w0:=w) w.heap.size rfl (.tmp 70) (.tmp 75) 28 37 (.agg #[(.int .i64 0),(.int .i64 0)]) 16 rfl Try.underlying28 info37 rfl (by decide) (by omega) u6 aN (⟨((rdQ am an).f1),wrap64 (an+1)⟩:S37) [.int .i64 ((rdQ am an).f1),.int .i64 (wrap64 (an+1))] (fun k_=>some k_≠(.slice (some aI) aa.length eP:Value).ownBlock) (fun _=>False) rfl rfl ?aP (fun _ hk=>hk.elim) ?aF ?aO ?aB ?aS ?aL ?_;(case aP=>exact k37_mkM _ _ _ (⟨((rdQ am an).f1),wrap64 (an+1)⟩:S37));(case aB=>exact HB.out);(case aF=>exact (fun k_ hk=>Kd.fresh' (Kd.R_lt ab.out) k_ hk));(case aO=>exact ao.out);(case aS=>exact (below_size HB.out));(case aL=>have:=eh.out;omega);intro iQ lq ho hb hg hat;rw [← eq.out] at ho;replace ac:=qo ac ao (by decide) hg;replace ad:=qo ad ao (by decide) hg;replace ab:=Aside0.mk (Kd.R_after (ok:=(fun _=>True)) (by exact Kd.R_mono ab.out (fun _ hk=>⟨trivial,hk⟩)) hg hat);replace af:=qg af hg ao (by decide);replace ah:=qg ah hg ao (by decide);replace ae:=qg ae hg ao (by decide);replace HB:=Aside0.mk hb;have bh:=Aside0.mk ho;clear ao;clear ho hb hg hat;refine qc3 ae fun gh gi gj he hf hh=>?_;obtain ⟨ez,il,kW,lb,hI,hJ⟩:=ro37 ab ag;obtain rfl:aI=ez:=(by injection il))|((with_reducible refine gate_builtin (b:=.append) (xs:=#[.tmp 77,.tmp 83]) rfl ?_);(try (refine gate_guard (by rfl) ?_;dsimp only));at_builtin;refine Kd.R_append k37 (w0:=w) w.heap.size rfl (.tmp 77) (.tmp 83) 28 37 (.agg #[(.int .i64 0),(.int .i64 0)]) 16 rfl Try.underlying28 info37 rfl (by decide) (by omega) iQ de (⟨(rdR aa ag).f0,(rdR aa ag).f1⟩:S37) [.int .i64 ((rdR aa ag).f0),.int .i64 ((rdR aa ag).f1)] (fun k_=>some k_≠(.slice (some aI) aa.length eP:Value).ownBlock) (fun _=>False) rfl rfl ?aP (fun _ hk=>hk.elim) ?aF ?aO ?aB ?aS ?aL ?_;(case aP=>exact k37_mkM _ _ _ (⟨(rdR aa ag).f0,(rdR aa ag).f1⟩:S37));(case aB=>exact HB.out);(case aF=>exact (fun k_ hk=>Kd.fresh' (Kd.R_lt ab.out) k_ hk));(case aO=>exact bh.out);(case aS=>exact (below_size HB.out));(case aL=>have:=ei.out;omega);intro ll lr ho hb hg hat;rw [← er.out] at ho;replace ac:=qo ac bh (by decide) hg;replace ad:=qo ad bh (by decide) hg;replace ab:=Aside0.mk (Kd.R_after (ok:=(fun _=>True)) ab.out hg hat);replace af:=qg af hg bh (by decide);replace ah:=qg ah hg bh (by decide);replace ae:=qg ae hg bh (by decide);replace HB:=Aside0.mk hb;have ea:=Aside0.mk ho;clear bh;clear ho hb hg hat))
    go_roundg k3
    case measure=>have:=bI.out;have:=bJ.out;have:=bK.out;omega
    case rel=>exact ⟨(iV),(true),(wrap64 (ag+1)),rfl,rfl,H',⟨by have:=bI.out;have:=bJ.out;have:=bK.out;omega⟩,ea,ac,ad,⟨by exact Kd.R_mono ab.out (fun _ hk=>hk.2)⟩,af,ah,ae,HB⟩
   rw [if_neg dO] at H
   have eO:decide (((rdQ am an).f1) < ((rdR aa ag).f0))=false:=decide_eq_false dO
   clear dO
   replace H:=iN H
   obtain ⟨jk,H⟩:=H
   have ej:=Aside0.mk jk
   clear jk
   obtain ⟨iW,cE⟩:∃ y_:List (S37),y_=(aN ++ [(⟨(rdR aa ag).f0,(rdR aa ag).f1⟩:S37)]):=⟨_,rfl⟩
   rw [← cE] at H
   have es:=Aside0.mk cE
   clear cE
   have H':=Aside0.mk H
   clear H
   have jP:=al.out
   have kt:=ai.out
   have jQ:=av.out
   have ku:=ak.out
   refine qc3 ae fun gl gm gn hi hj hl=>?_
   obtain ⟨kM,ia,iw⟩:=Kd.R_slice ab.out
   subst iw
   obtain ⟨aI,bl,da,dd,bf,bg⟩:=ro37 ab ag
   cases bl
   obtain ⟨bB,cu,fA,fC,cl,cm⟩:=ro37 ab ag
   obtain rfl:aI=bB:=(by injection cu)
   obtain ⟨eA,im,kX,lc,hL,hM⟩:=ro37 ab ag
   obtain rfl:aI=eA:=(by injection im)
   go_wp2_with (((with_reducible refine gate_builtin (b:=.append) (xs:=#[.tmp 77,.tmp 83]) rfl ?_);(try (refine gate_guard (by rfl) ?_;dsimp only));at_builtin;refine Kd.R_append k37 (w0:=w) w.heap.size rfl (.tmp 77) (.tmp 83) 28 37 (.agg #[(.int .i64 0),(.int .i64 0)]) 16 rfl Try.underlying28 info37 rfl (by decide) (by omega) u6 aN (⟨(rdR aa ag).f0,(rdR aa ag).f1⟩:S37) [.int .i64 ((rdR aa ag).f0),.int .i64 ((rdR aa ag).f1)] (fun k_=>some k_≠(.slice (some aI) aa.length ia:Value).ownBlock) (fun _=>False) rfl rfl ?aP (fun _ hk=>hk.elim) ?aF ?aO ?aB ?aS ?aL ?_;(case aP=>exact k37_mkM _ _ _ (⟨(rdR aa ag).f0,(rdR aa ag).f1⟩:S37));(case aB=>exact HB.out);(case aF=>exact (fun k_ hk=>Kd.fresh' (Kd.R_lt ab.out) k_ hk));(case aO=>exact ao.out);(case aS=>exact (below_size HB.out));(case aL=>have:=ej.out;omega);intro lm ls ho hb hg hat;rw [← es.out] at ho;replace ac:=qo ac ao (by decide) hg;replace ad:=qo ad ao (by decide) hg;replace ab:=Aside0.mk (Kd.R_after (ok:=(fun _=>True)) (by exact Kd.R_mono ab.out (fun _ hk=>⟨trivial,hk⟩)) hg hat);replace af:=qg af hg ao (by decide);replace ah:=qg ah hg ao (by decide);replace ae:=qg ae hg ao (by decide);replace HB:=Aside0.mk hb;have eb:=Aside0.mk ho;clear ao;clear ho hb hg hat))
   go_roundg k3
   case measure=>have:=bI.out;have:=bJ.out;have:=bK.out;omega
   case rel=>exact ⟨(iW),(cp),(wrap64 (ag+1)),rfl,rfl,H',⟨by have:=bI.out;have:=bJ.out;have:=bK.out;omega⟩,eb,ac,ad,⟨by exact Kd.R_mono ab.out (fun _ hk=>hk.2)⟩,af,ah,ae,HB⟩
  rw [if_neg dM] at H
  have eJ:=decide_eq_false dM
  clear dM
  by_cases fF:cp=true
  ·subst fF
   replace H:=iP H
   replace H:=iNd H
   obtain ⟨jl,H⟩:=H
   replace H:=iNd H
   obtain ⟨jm,H⟩:=H
   have H':=Aside0.mk H
   clear H
   have jR:=al.out
   have kv:=ai.out
   have jS:=av.out
   have kw:=ak.out
   refine qc3 ae fun gp gq gr hm hp hq=>?_
   obtain ⟨hT,ib,ix⟩:=Kd.R_slice ab.out
   subst ix
   obtain ⟨dQ,eQ,iy⟩:=Kd.R_slice ao.out
   subst iy
   have jT:=ay.out
   have kx:=az.out
   refine qc3 af fun gs gt gu hs ht hu=>?_
   have cY:0≤(an:Int):=od
   have db:an < (am.length:Int):=od
   obtain ⟨eu,ig,cb,cc,cd,ce,cf⟩:=rq35 aY HB an cY db
   obtain rfl:bA=eu:=(by injection ig)
   have aU:=nq35 aY an cY db bz
   have hK:=fun w=>@kB1 ax w (2) (.slice dQ aN.length eQ)
   replace cb:=zc cb (by rw [add_block];exact aU) (hK _)
   replace cc:=zc cc (by rw [add_block];exact aU) (hK _)
   replace cd:=zc cd (by rw [add_block];exact aU) (hK _)
   replace ce:=zc ce (by rw [add_block];exact aU) (hK _)
   replace cf:=zc cf (by rw [add_block];exact aU) (hK _)
   clear hK
   clear aU
   replace cY:=eq_true cY
   replace db:=eq_true db
   go_wp2
   go_roundg k3
   case measure=>have:=bI.out;have:=bJ.out;have:=bK.out;omega
   case rel=>exact ⟨((rdQ am an).f2),(aN),(.slice dQ aN.length eQ),rfl,H',⟨by have:=bI.out;have:=bJ.out;have:=bK.out;omega⟩,zR ac ae (by decide) kb1,zR ad ae (by decide) kb1,zRm ao ae (by decide) kb1 (fun _ _=>trivial),zb af ai.out kb1,zb ah ak.out kb1,⟨by refine blk_put (cs:=#[.slice aJ aj.length au,.slice aG ar.length aH,.slice hT aa.length ib]) ?_ 2 _ rfl;exact ae.out⟩,⟨by repeat ((with_reducible first | exact HB.out | refine b_st ?_ bx.out))⟩⟩
  replace fF:=Bool.eq_false_iff.mpr fF
  subst fF
  replace H:=iF H
  replace H:=iN H
  obtain ⟨jn,H⟩:=H
  have ek:=Aside0.mk jn
  clear jn
  obtain ⟨dJ,cy⟩:∃ y_:List (S37),y_=(aN ++ [(⟨((rdQ am an).f1),wrap64 (an+1)⟩:S37)]):=⟨_,rfl⟩
  rw [← cy] at H
  have em:=Aside0.mk cy
  clear cy
  replace H:=iNd H
  obtain ⟨jo,H⟩:=H
  replace H:=iNd H
  obtain ⟨jp,H⟩:=H
  have H':=Aside0.mk H
  clear H
  have jU:=al.out
  have ky:=ai.out
  have jV:=av.out
  have kz:=ak.out
  refine qc3 ae fun gv gw gx hv hx hy=>?_
  obtain ⟨dR,eR,iz⟩:=Kd.R_slice ab.out
  subst iz
  go_wp2_with (first | ((with_reducible refine gate_builtin (b:=.append) (xs:=#[.tmp 87,.tmp 92]) rfl ?_);(try (refine gate_guard (by rfl) ?_;dsimp only));at_builtin;refine Kd.R_append k37 (w0:=w) w.heap.size rfl (.tmp 87) (.tmp 92) 28 37 (.agg #[(.int .i64 0),(.int .i64 0)]) 16 rfl Try.underlying28 info37 rfl (by decide) (by omega) u6 aN (⟨((rdQ am an).f1),wrap64 (an+1)⟩:S37) [.int .i64 ((rdQ am an).f1),.int .i64 (wrap64 (an+1))] (fun k_=>some k_≠(.slice dR aa.length eR:Value).ownBlock) (fun _=>False) rfl rfl ?aP (fun _ hk=>hk.elim) ?aF ?aO ?aB ?aS ?aL ?_;(case aP=>exact k37_mkM _ _ _ (⟨((rdQ am an).f1),wrap64 (an+1)⟩:S37));(case aB=>exact HB.out);(case aF=>exact (fun k_ hk=>Kd.fresh' (Kd.R_lt ab.out) k_ hk));(case aO=>exact ao.out);(case aS=>exact (below_size HB.out));(case aL=>have:=ek.out;omega);intro lh lt ho hb hg hat;rw [← em.out] at ho;replace ac:=qo ac ao (by decide) hg;replace ad:=qo ad ao (by decide) hg;replace ab:=Aside0.mk (Kd.R_after (ok:=(fun _=>True)) (by exact Kd.R_mono ab.out (fun _ hk=>⟨trivial,hk⟩)) hg hat);replace af:=qg af hg ao (by decide);replace ah:=qg ah hg ao (by decide);replace ae:=qg ae hg ao (by decide);replace HB:=Aside0.mk hb;have dg:=Aside0.mk ho;clear ao;clear ho hb hg hat;obtain ⟨dS,eS,iA⟩:=Kd.R_slice dg.out;subst iA;refine qc3 ae fun gy gz gA hz hA hB=>?_;have jW:=ay.out;have kA:=az.out;refine qc3 af fun eV eW eX fk fl fm=>?_;have cZ:0≤(an:Int):=od;have dc:an < (am.length:Int):=od;obtain ⟨ev,ih,cg,ch,ci,cj,ck⟩:=rq35 aY HB an cZ dc;obtain rfl:bA=ev:=(by injection ih);have aV:=nq35 aY an cZ dc bz;have hK:=fun w=>@kB1 ax w (2) (.slice dS dJ.length eS);replace cg:=zc cg (by rw [add_block];exact aV) (hK _);replace ch:=zc ch (by rw [add_block];exact aV) (hK _);replace ci:=zc ci (by rw [add_block];exact aV) (hK _);replace cj:=zc cj (by rw [add_block];exact aV) (hK _);replace ck:=zc ck (by rw [add_block];exact aV) (hK _);clear hK;clear aV;replace cZ:=eq_true cZ;replace dc:=eq_true dc))
  go_roundg k3
  case measure=>have:=bI.out;have:=bJ.out;have:=bK.out;omega
  case rel=>exact ⟨((rdQ am an).f2),(dJ),(.slice dS dJ.length eS),rfl,H',⟨by have:=bI.out;have:=bJ.out;have:=bK.out;omega⟩,zR ac ae (by decide) kb1,zR ad ae (by decide) kb1,zRm dg ae (by decide) kb1 (fun _ _=>trivial),zb af ai.out kb1,zb ah ak.out kb1,⟨by refine blk_put (cs:=#[.slice aJ aj.length au,.slice aG ar.length aH,.slice dR aa.length eR]) ?_ 2 _ rfl;exact ae.out⟩,⟨by repeat ((with_reducible first | exact HB.out | refine b_st ?_ bx.out))⟩⟩
 rw [if_neg eI] at H
 obtain ⟨di,dj⟩:=cBf eI
 replace H:=iN H
 obtain ⟨eB,H⟩:=H
 have hV:=decide_eq_true eB
 have hW:decide (1 < aj.length)=true:=decide_eq_true (by omega)
 clear eB
 obtain ⟨iR,cx⟩:∃ y_:List (S35),y_=(aj.set (1:Int).toNat (⟨3,an,0,0,0⟩:S35)):=⟨_,rfl⟩
 rw [← cx] at H
 have el:=Aside0.mk cx
 clear cx
 simp only [Option.some.injEq,Prod.mk.injEq] at H
 obtain ⟨rfl,rfl,rfl⟩:=H
 have iB:=ay.out
 have iE:=az.out
 have iC:=ai.out
 have iG:=al.out
 refine qc3 af fun eY eZ fa fn fo fp=>?_
 obtain ⟨bA,dv,fz,fB,bW,bX,bY,bZ,ca⟩:=rd35 aY HB an
 cases dv
 have iD:=av.out
 have iH:=ak.out
 refine qc3 ae fun fb fc fd fq fr fs=>?_
 have dE:0≤(1:Int):=(by omega)
 have dG:(1:Int) < ((aj.length:Int):Int):=od
 have kF:(1 < aj.length)=True:=eq_true (by omega)
 obtain ⟨ap,jt,dk,dl,eU,js,dW⟩:=Kd.R_form ac.out (by omega)
 (first | cases dk | (injection dk with ea_ en_ ec_;(fail);subst ec_;clear en_))
 have bw:=Aside0.mk dl
 clear dl eU dW
 obtain ⟨jq,dx,dm,ba,bb⟩:=Kd.R_elem ac.out z35 (1:Int) dE dG
 obtain rfl:=k35_openM dm
 have bR:wr.cell? ⟨ap,(1:Int).toNat*5,none⟩=some (.int .i64 ((rdQ aj 1).f0)):=ba 0 _ rfl
 have bS:wr.cell? ⟨ap,(1:Int).toNat*5+1,none⟩=some (.int .i64 ((rdQ aj 1).f1)):=ba 1 _ rfl
 have bT:wr.cell? ⟨ap,(1:Int).toNat*5+2,none⟩=some (.int .i64 ((rdQ aj 1).f2)):=ba 2 _ rfl
 have bU:wr.cell? ⟨ap,(1:Int).toNat*5+3,none⟩=some (.int .i64 ((rdQ aj 1).f3)):=ba 3 _ rfl
 have bV:wr.cell? ⟨ap,(1:Int).toNat*5+4,none⟩=some (.int .i64 ((rdQ aj 1).f4)):=ba 4 _ rfl
 have bM:wr.frozen? ⟨ap,(1:Int).toNat*5,none⟩=false:=bb 0
 have bN:wr.frozen? ⟨ap,(1:Int).toNat*5+1,none⟩=false:=bb 1
 have bO:wr.frozen? ⟨ap,(1:Int).toNat*5+2,none⟩=false:=bb 2
 have bP:wr.frozen? ⟨ap,(1:Int).toNat*5+3,none⟩=false:=bb 3
 have bQ:wr.frozen? ⟨ap,(1:Int).toNat*5+4,none⟩=false:=bb 4
 clear dx ba bb dm
 (try rw [show ((1:Int)).toNat=1 from rfl] at bR)
 (try simp only [Nat.reduceMul,Nat.zero_mul,Nat.zero_add,Nat.reduceAdd] at bR)
 (try rw [show ((1:Int)).toNat=1 from rfl] at bM)
 (try simp only [Nat.reduceMul,Nat.zero_mul,Nat.zero_add,Nat.reduceAdd] at bM)
 (try rw [show ((1:Int)).toNat=1 from rfl] at bS)
 (try simp only [Nat.reduceMul,Nat.zero_mul,Nat.zero_add,Nat.reduceAdd] at bS)
 (try rw [show ((1:Int)).toNat=1 from rfl] at bN)
 (try simp only [Nat.reduceMul,Nat.zero_mul,Nat.zero_add,Nat.reduceAdd] at bN)
 (try rw [show ((1:Int)).toNat=1 from rfl] at bT)
 (try simp only [Nat.reduceMul,Nat.zero_mul,Nat.zero_add,Nat.reduceAdd] at bT)
 (try rw [show ((1:Int)).toNat=1 from rfl] at bO)
 (try simp only [Nat.reduceMul,Nat.zero_mul,Nat.zero_add,Nat.reduceAdd] at bO)
 (try rw [show ((1:Int)).toNat=1 from rfl] at bU)
 (try simp only [Nat.reduceMul,Nat.zero_mul,Nat.zero_add,Nat.reduceAdd] at bU)
 (try rw [show ((1:Int)).toNat=1 from rfl] at bP)
 (try simp only [Nat.reduceMul,Nat.zero_mul,Nat.zero_add,Nat.reduceAdd] at bP)
 (try rw [show ((1:Int)).toNat=1 from rfl] at bV)
 (try simp only [Nat.reduceMul,Nat.zero_mul,Nat.zero_add,Nat.reduceAdd] at bV)
 (try rw [show ((1:Int)).toNat=1 from rfl] at bQ)
 (try simp only [Nat.reduceMul,Nat.zero_mul,Nat.zero_add,Nat.reduceAdd] at bQ)
 replace dE:=eq_true dE
 replace dG:=eq_true dG
 have dh:=Aside0.mk (show Kd.R k35 35 wr w.heap.size (fun k_=>some k_≠(.slice aG ar.length aH:Value).ownBlock) (.slice (some ⟨ap,0,none⟩) aj.length au) aj from ac.out)
 obtain ⟨jr,cw,dn,aX,bc⟩:=Kd.R_elem dh.out z35 (1:Int) (by omega) (by have h_:(1:Int) < ((aj.length:Int):Int):=od;(exact h_))
 obtain rfl:=k35_openM dn
 have cq:=Kd.R_seg dh.out (1:Int) (by omega) (by have h_:(1:Int) < ((aj.length:Int):Int):=od;(exact h_)) (seg:=[.int .i64 3,.int .i64 an,.int .i64 0,.int .i64 0,.int .i64 0]) (j:=0) cw aX (show 5≤5 from by decide) (x':=(⟨3,an,0,0,0⟩:S35)) (k35_mkM _ _ _ (⟨3,an,0,0,0⟩:S35) ) (fun _ hk=>hk)
 have br:=aX 0 _ rfl
 (try simp only [show (k35).sz=5 from rfl,Nat.mul_one,Nat.add_zero] at br)
 (try rw [show ((1:Int)).toNat=1 from rfl] at br)
 (try simp only [Nat.reduceMul,Nat.zero_mul,Nat.zero_add,Nat.reduceAdd] at br)
 have bm:=bc 0
 (try simp only [show (k35).sz=5 from rfl,Nat.mul_one,Nat.add_zero] at bm)
 (try rw [show ((1:Int)).toNat=1 from rfl] at bm)
 (try simp only [Nat.reduceMul,Nat.zero_mul,Nat.zero_add,Nat.reduceAdd] at bm)
 have bs:=aX 1 _ rfl
 (try simp only [show (k35).sz=5 from rfl,Nat.mul_one,Nat.add_zero] at bs)
 (try rw [show ((1:Int)).toNat=1 from rfl] at bs)
 (try simp only [Nat.reduceMul,Nat.zero_mul,Nat.zero_add,Nat.reduceAdd] at bs)
 have bn:=bc 1
 (try simp only [show (k35).sz=5 from rfl,Nat.mul_one,Nat.add_zero] at bn)
 (try rw [show ((1:Int)).toNat=1 from rfl] at bn)
 (try simp only [Nat.reduceMul,Nat.zero_mul,Nat.zero_add,Nat.reduceAdd] at bn)
 have bt:=aX 2 _ rfl
 (try simp only [show (k35).sz=5 from rfl,Nat.mul_one,Nat.add_zero] at bt)
 (try rw [show ((1:Int)).toNat=1 from rfl] at bt)
 (try simp only [Nat.reduceMul,Nat.zero_mul,Nat.zero_add,Nat.reduceAdd] at bt)
 have bo:=bc 2
 (try simp only [show (k35).sz=5 from rfl,Nat.mul_one,Nat.add_zero] at bo)
 (try rw [show ((1:Int)).toNat=1 from rfl] at bo)
 (try simp only [Nat.reduceMul,Nat.zero_mul,Nat.zero_add,Nat.reduceAdd] at bo)
 have bu:=aX 3 _ rfl
 (try simp only [show (k35).sz=5 from rfl,Nat.mul_one,Nat.add_zero] at bu)
 (try rw [show ((1:Int)).toNat=1 from rfl] at bu)
 (try simp only [Nat.reduceMul,Nat.zero_mul,Nat.zero_add,Nat.reduceAdd] at bu)
 have bp:=bc 3
 (try simp only [show (k35).sz=5 from rfl,Nat.mul_one,Nat.add_zero] at bp)
 (try rw [show ((1:Int)).toNat=1 from rfl] at bp)
 (try simp only [Nat.reduceMul,Nat.zero_mul,Nat.zero_add,Nat.reduceAdd] at bp)
 have bv:=aX 4 _ rfl
 (try simp only [show (k35).sz=5 from rfl,Nat.mul_one,Nat.add_zero] at bv)
 (try rw [show ((1:Int)).toNat=1 from rfl] at bv)
 (try simp only [Nat.reduceMul,Nat.zero_mul,Nat.zero_add,Nat.reduceAdd] at bv)
 have bq:=bc 4
 (try simp only [show (k35).sz=5 from rfl,Nat.mul_one,Nat.add_zero] at bq)
 (try rw [show ((1:Int)).toNat=1 from rfl] at bq)
 (try simp only [Nat.reduceMul,Nat.zero_mul,Nat.zero_add,Nat.reduceAdd] at bq)
 clear cw aX bc dn
 go_wp2_with (first | ((with_reducible refine gate_store (t:=35) (p:=106) rfl ?_);refine store_event (t:=35) (p:=106) (v:=?dP) (w1:=(((((wr.setCell ⟨ap,5,none⟩ (.int .i64 3)).setCell ⟨ap,6,none⟩ (.int .i64 an)).setCell ⟨ap,7,none⟩ (.int .i64 0)).setCell ⟨ap,8,none⟩ (.int .i64 0)).setCell ⟨ap,9,none⟩ (.int .i64 0))) ?hg ?ho ?hn ?hr ?_;(case ho=>rfl);(case hg=>rfl);(case hn=>rfl);(case hr=>(go_simp;done));intro dI hw;have hg:wr.grownBy dI (some ap):=(by rw [hw];exact cq.2);have hp_:Kd.R k35 35 dI w.heap.size (fun k_=>some k_≠(.slice aG ar.length aH:Value).ownBlock) (.slice (some ⟨ap,0,none⟩) aj.length au) iR:=(by rw [hw,el.out];exact cq.1);clear cq;replace ad:=Aside0.mk (Kd.R_after (v:=(.slice (some ⟨ap,0,none⟩) aj.length au)) (v1:=(.slice (some ⟨ap,0,none⟩) aj.length au)) (ok:=(fun _=>True)) (by exact Kd.R_mono ad.out (fun _ hk=>⟨trivial,hk⟩)) hg (.inl rfl));replace ab:=qo ab ac (by decide) hg;replace af:=qg af hg ac (by decide);replace ah:=qg ah hg ac (by decide);replace ae:=qg ae hg ac (by decide);replace ac:=Aside0.mk hp_;replace HB:=Aside0.mk ((by rw [hw];exact b_st (b_st (b_st (b_st (b_st (HB.out) bw.out) bw.out) bw.out) bw.out) bw.out:Below w.heap.size w dI));clear hg hw hp_;refine qc3 ae fun fe ff fg ft fu fv=>?_;refine qc3 ah fun fh fi fj fw fx fy=>?_;obtain ⟨bH,bL,eT⟩:=Kd.R_slice ab.out;subst eT))
 refine bodyPost_ret (results_cell_row rfl _ _ aw 30 #[.slice (some ⟨ap,0,none⟩) aj.length au,.slice aG ar.length aH,.slice bH aa.length bL] (0,0) _ rfl (by refine blk_put (cs:=#[.slice (some ⟨ap,0,none⟩) aj.length au,.slice aG ar.length aH,.slice none 0 0]) ?_ 2 _ rfl;refine blk_put (cs:=#[.slice (some ⟨ap,0,none⟩) aj.length au,.slice none 0 0,.slice none 0 0]) ?_ 1 _ rfl;refine blk_put (cs:=#[.slice none 0 0,.slice none 0 0,.slice none 0 0]) ?_ 0 _ rfl;exact ah.out) Try.underlying30 rfl (by kernel_rfl)) rfl ?_
 exact ⟨_,_,_,by (rfl),by exact Kd.R_mono (Kd.R_far (p:=⟨aw,2,none⟩) (Kd.R_far (p:=⟨aw,1,none⟩) (Kd.R_far (p:=⟨aw,0,none⟩) (Kd.R_types ac.out ah.out (by decide)) (fun _ hk=>hk.2) (.slice (some ⟨ap,0,none⟩) aj.length au)) (fun _ hk=>hk.2) (.slice aG ar.length aH)) (fun _ hk=>hk.2) (.slice bH aa.length bL)) (fun _ hk=>hk.1),by exact Kd.R_mono (Kd.R_far (p:=⟨aw,2,none⟩) (Kd.R_far (p:=⟨aw,1,none⟩) (Kd.R_far (p:=⟨aw,0,none⟩) (Kd.R_types ad.out ah.out (by decide)) (fun _ hk=>hk.2) (.slice (some ⟨ap,0,none⟩) aj.length au)) (fun _ hk=>hk.2) (.slice aG ar.length aH)) (fun _ hk=>hk.2) (.slice bH aa.length bL)) (fun _ hk=>hk.1.2),by exact Kd.R_mono (Kd.R_far (p:=⟨aw,2,none⟩) (Kd.R_far (p:=⟨aw,1,none⟩) (Kd.R_far (p:=⟨aw,0,none⟩) (Kd.R_types ab.out ah.out (by decide)) (fun _ hk=>hk.2) (.slice (some ⟨ap,0,none⟩) aj.length au)) (fun _ hk=>hk.2) (.slice aG ar.length aH)) (fun _ hk=>hk.2) (.slice bH aa.length bL)) (fun _ hk=>trivial),by repeat ((with_reducible first | exact HB.out | refine b_st ?_ df.out))⟩
theorem eqA35 (d:Nat) (w:World) (x0 y0:Int) (x1 y1:Int) (x2 y2:Int) (x3 y3:Int) (x4 y4:Int) :
  (Op.equalIn (d+2) 35 (.agg #[.int .i64 x0,.int .i64 x1,.int .i64 x2,.int .i64 x3,.int .i64 x4]) (.agg #[.int .i64 y0,.int .i64 y1,.int .i64 y2,.int .i64 y3,.int .i64 y4])).run Try.prog w=.ok (x0 == y0 && (x1 == y1 && (x2 == y2 && (x3 == y3 && (x4 == y4))))) w:=by
 refine eqA_of Try.underlying35 (by kernel_rfl) ?_
 refine eqf_cons (by rfl) (by go_simp;rfl) (by go_simp;rfl) (by go_simp) ?_
 refine eqf_cons (by rfl) (by go_simp;rfl) (by go_simp;rfl) (by go_simp) ?_
 refine eqf_cons (by rfl) (by go_simp;rfl) (by go_simp;rfl) (by go_simp) ?_
 refine eqf_cons (by rfl) (by go_simp;rfl) (by go_simp;rfl) (by go_simp) ?_
 exact eqf_last (by rfl) (by go_simp;rfl) (by go_simp;rfl) (by go_simp)
theorem eqA37 (d:Nat) (w:World) (x0 y0:Int) (x1 y1:Int) :
  (Op.equalIn (d+2) 37 (.agg #[.int .i64 x0,.int .i64 x1]) (.agg #[.int .i64 y0,.int .i64 y1])).run Try.prog w=.ok (x0 == y0 && (x1 == y1)) w:=by
 refine eqA_of Try.underlying37 (by kernel_rfl) ?_
 refine eqf_cons (by rfl) (by go_simp;rfl) (by go_simp;rfl) (by go_simp) ?_
 exact eqf_last (by rfl) (by go_simp;rfl) (by go_simp;rfl) (by go_simp)
def cartouchelaw13_Lowered.f :Option ((List (S35)) × (List (S35)) × (List (S37))):=some ((([(⟨1,0,0,0,0⟩:S35),(⟨2,8,5,0,0⟩:S35),(⟨5,2,0,0,0⟩:S35),(⟨7,1,0,0,0⟩:S35),(⟨4,0,0,0,0⟩:S35),(⟨2,16,9,0,0⟩:S35),(⟨5,4,0,0,0⟩:S35),(⟨8,2,0,0,0⟩:S35),(⟨4,0,0,0,0⟩:S35),(⟨2,18,12,0,0⟩:S35),(⟨11,2,4,0,0⟩:S35),(⟨4,0,0,0,0⟩:S35),(⟨2,26,15,0,0⟩:S35),(⟨10,3,1,0,0⟩:S35),(⟨4,0,0,0,0⟩:S35),(⟨13,0,0,0,0⟩:S35),(⟨4,0,0,0,0⟩:S35)]:List (S35))),(([(⟨16,1,3,2,0⟩:S35),(⟨17,8,0,0,0⟩:S35),(⟨18,2,0,0,0⟩:S35),(⟨16,2,5,0,0⟩:S35),(⟨21,18,4,0,0⟩:S35),(⟨16,3,8,0,0⟩:S35),(⟨17,26,0,0,0⟩:S35),(⟨19,1,0,0,0⟩:S35),(⟨23,0,0,0,0⟩:S35),(⟨24,0,0,0,0⟩:S35)]:List (S35))),([]:List (S37)))
set_option maxHeartbeats 8000000 in
set_option maxRecDepth 100000 in
theorem cartouchelaw13_Lowered.calls  (r1:List (S35)) (r2:List (S35)) (r3:List (S37)) (w:World) (h:cartouchelaw13_Lowered.f =some (r1,r2,r3)) :
    Calls Try.prog 21 #[] w fun e w'=>∃ az aA aC:Value,e=.returned (.agg #[az,aA,aC])∧Kd.R k35 35 w' w.heap.size (fun k_=>some k_≠(aA:Value).ownBlock) az r1∧Kd.R k35 35 w' w.heap.size (fun k_=>some k_≠(az:Value).ownBlock) aA r2∧Kd.R k37 37 w' w.heap.size (fun _=>True) aC r3∧Below w.heap.size w w':=by
 have aF:=Try.underlying30
 have aG:=Try.underlying35
 have HB:=Aside0.mk (Below.refl w.heap.size w)
 have H:(some ((([(⟨1,0,0,0,0⟩:S35),(⟨2,8,5,0,0⟩:S35),(⟨5,2,0,0,0⟩:S35),(⟨7,1,0,0,0⟩:S35),(⟨4,0,0,0,0⟩:S35),(⟨2,16,9,0,0⟩:S35),(⟨5,4,0,0,0⟩:S35),(⟨8,2,0,0,0⟩:S35),(⟨4,0,0,0,0⟩:S35),(⟨2,18,12,0,0⟩:S35),(⟨11,2,4,0,0⟩:S35),(⟨4,0,0,0,0⟩:S35),(⟨2,26,15,0,0⟩:S35),(⟨10,3,1,0,0⟩:S35),(⟨4,0,0,0,0⟩:S35),(⟨13,0,0,0,0⟩:S35),(⟨4,0,0,0,0⟩:S35)]:List (S35))),(([(⟨16,1,3,2,0⟩:S35),(⟨17,8,0,0,0⟩:S35),(⟨18,2,0,0,0⟩:S35),(⟨16,2,5,0,0⟩:S35),(⟨21,18,4,0,0⟩:S35),(⟨16,3,8,0,0⟩:S35),(⟨17,26,0,0,0⟩:S35),(⟨19,1,0,0,0⟩:S35),(⟨23,0,0,0,0⟩:S35),(⟨24,0,0,0,0⟩:S35)]:List (S35))),([]:List (S37))))=some (r1,r2,r3):=h
 clear h
 obtain ⟨af,ad⟩:∃ y_:List (S35),y_=(([(⟨1,0,0,0,0⟩:S35),(⟨2,8,5,0,0⟩:S35),(⟨5,2,0,0,0⟩:S35),(⟨7,1,0,0,0⟩:S35),(⟨4,0,0,0,0⟩:S35),(⟨2,16,9,0,0⟩:S35),(⟨5,4,0,0,0⟩:S35),(⟨8,2,0,0,0⟩:S35),(⟨4,0,0,0,0⟩:S35),(⟨2,18,12,0,0⟩:S35),(⟨11,2,4,0,0⟩:S35),(⟨4,0,0,0,0⟩:S35),(⟨2,26,15,0,0⟩:S35),(⟨10,3,1,0,0⟩:S35),(⟨4,0,0,0,0⟩:S35),(⟨13,0,0,0,0⟩:S35),(⟨4,0,0,0,0⟩:S35)]:List (S35))):=⟨_,rfl⟩
 rw [← ad] at H
 have ak:=Aside0.mk ad
 clear ad
 obtain ⟨ag,ae⟩:∃ y_:List (S35),y_=(([(⟨16,1,3,2,0⟩:S35),(⟨17,8,0,0,0⟩:S35),(⟨18,2,0,0,0⟩:S35),(⟨16,2,5,0,0⟩:S35),(⟨21,18,4,0,0⟩:S35),(⟨16,3,8,0,0⟩:S35),(⟨17,26,0,0,0⟩:S35),(⟨19,1,0,0,0⟩:S35),(⟨23,0,0,0,0⟩:S35),(⟨24,0,0,0,0⟩:S35)]:List (S35))):=⟨_,rfl⟩
 rw [← ae] at H
 have al:=Aside0.mk ae
 clear ae
 simp only [Option.some.injEq,Prod.mk.injEq] at H
 obtain ⟨rfl,rfl,rfl⟩:=H
 go_enter Try.func21,Try.ntmps21
 go_wp2_with (first | ((with_reducible refine gate_dst (N:=0) rfl ?_);refine box_event ?hg (N:=0) ?hd (cs:=#[.slice none 0 0,.slice none 0 0,.slice none 0 0]) (t:=30) ?hr ?_;(case hd=>rfl);(case hg=>rfl);(case hr=>(go_simp;done));intro ab hg w1 hbox hb;have aa:=Aside0.mk hbox;have aB:=qz HB hg;have aj:=qz HB hg;replace HB:=qs HB hb;clear hb hbox hg)|((with_reducible refine gate_dst (N:=18) rfl ?_);refine Kd.R_lit k35 _ 35 ?hg (N:=18) ?hd (xs:=([(⟨1,0,0,0,0⟩:S35),(⟨2,8,5,0,0⟩:S35),(⟨5,2,0,0,0⟩:S35),(⟨7,1,0,0,0⟩:S35),(⟨4,0,0,0,0⟩:S35),(⟨2,16,9,0,0⟩:S35),(⟨5,4,0,0,0⟩:S35),(⟨8,2,0,0,0⟩:S35),(⟨4,0,0,0,0⟩:S35),(⟨2,18,12,0,0⟩:S35),(⟨11,2,4,0,0⟩:S35),(⟨4,0,0,0,0⟩:S35),(⟨2,26,15,0,0⟩:S35),(⟨10,3,1,0,0⟩:S35),(⟨4,0,0,0,0⟩:S35),(⟨13,0,0,0,0⟩:S35),(⟨4,0,0,0,0⟩:S35)]:List (S35))) (inner:=[.int .i64 1,.int .i64 0,.int .i64 0,.int .i64 0,.int .i64 0,.int .i64 2,.int .i64 8,.int .i64 5,.int .i64 0,.int .i64 0,.int .i64 5,.int .i64 2,.int .i64 0,.int .i64 0,.int .i64 0,.int .i64 7,.int .i64 1,.int .i64 0,.int .i64 0,.int .i64 0,.int .i64 4,.int .i64 0,.int .i64 0,.int .i64 0,.int .i64 0,.int .i64 2,.int .i64 16,.int .i64 9,.int .i64 0,.int .i64 0,.int .i64 5,.int .i64 4,.int .i64 0,.int .i64 0,.int .i64 0,.int .i64 8,.int .i64 2,.int .i64 0,.int .i64 0,.int .i64 0,.int .i64 4,.int .i64 0,.int .i64 0,.int .i64 0,.int .i64 0,.int .i64 2,.int .i64 18,.int .i64 12,.int .i64 0,.int .i64 0,.int .i64 11,.int .i64 2,.int .i64 4,.int .i64 0,.int .i64 0,.int .i64 4,.int .i64 0,.int .i64 0,.int .i64 0,.int .i64 0,.int .i64 2,.int .i64 26,.int .i64 15,.int .i64 0,.int .i64 0,.int .i64 10,.int .i64 3,.int .i64 1,.int .i64 0,.int .i64 0,.int .i64 4,.int .i64 0,.int .i64 0,.int .i64 0,.int .i64 0,.int .i64 13,.int .i64 0,.int .i64 0,.int .i64 0,.int .i64 0,.int .i64 4,.int .i64 0,.int .i64 0,.int .i64 0,.int .i64 0]) (ok:=fun _=>True) (okp:=fun _=>True) ?hr ?hp (fun _ hk=>hk) trivial (Below.refl _ _) (Nat.le_refl _) (by simp) ?_;(case hd=>rfl);(case hg=>rfl);(case hr=>(go_simp;done));(case hp=>exact (Reps.c5 (show Kd.M k35 _ _ _ (⟨1,0,0,0,0⟩:S35) [.int .i64 1,.int .i64 0,.int .i64 0,.int .i64 0,.int .i64 0] from (k35_mkM _ _ _ (⟨1,0,0,0,0⟩:S35) )) (Reps.c5 (show Kd.M k35 _ _ _ (⟨2,8,5,0,0⟩:S35) [.int .i64 2,.int .i64 8,.int .i64 5,.int .i64 0,.int .i64 0] from (k35_mkM _ _ _ (⟨2,8,5,0,0⟩:S35) )) (Reps.c5 (show Kd.M k35 _ _ _ (⟨5,2,0,0,0⟩:S35) [.int .i64 5,.int .i64 2,.int .i64 0,.int .i64 0,.int .i64 0] from (k35_mkM _ _ _ (⟨5,2,0,0,0⟩:S35) )) (Reps.c5 (show Kd.M k35 _ _ _ (⟨7,1,0,0,0⟩:S35) [.int .i64 7,.int .i64 1,.int .i64 0,.int .i64 0,.int .i64 0] from (k35_mkM _ _ _ (⟨7,1,0,0,0⟩:S35) )) (Reps.c5 (show Kd.M k35 _ _ _ (⟨4,0,0,0,0⟩:S35) [.int .i64 4,.int .i64 0,.int .i64 0,.int .i64 0,.int .i64 0] from (k35_mkM _ _ _ (⟨4,0,0,0,0⟩:S35) )) (Reps.c5 (show Kd.M k35 _ _ _ (⟨2,16,9,0,0⟩:S35) [.int .i64 2,.int .i64 16,.int .i64 9,.int .i64 0,.int .i64 0] from (k35_mkM _ _ _ (⟨2,16,9,0,0⟩:S35) )) (Reps.c5 (show Kd.M k35 _ _ _ (⟨5,4,0,0,0⟩:S35) [.int .i64 5,.int .i64 4,.int .i64 0,.int .i64 0,.int .i64 0] from (k35_mkM _ _ _ (⟨5,4,0,0,0⟩:S35) )) (Reps.c5 (show Kd.M k35 _ _ _ (⟨8,2,0,0,0⟩:S35) [.int .i64 8,.int .i64 2,.int .i64 0,.int .i64 0,.int .i64 0] from (k35_mkM _ _ _ (⟨8,2,0,0,0⟩:S35) )) (Reps.c5 (show Kd.M k35 _ _ _ (⟨4,0,0,0,0⟩:S35) [.int .i64 4,.int .i64 0,.int .i64 0,.int .i64 0,.int .i64 0] from (k35_mkM _ _ _ (⟨4,0,0,0,0⟩:S35) )) (Reps.c5 (show Kd.M k35 _ _ _ (⟨2,18,12,0,0⟩:S35) [.int .i64 2,.int .i64 18,.int .i64 12,.int .i64 0,.int .i64 0] from (k35_mkM _ _ _ (⟨2,18,12,0,0⟩:S35) )) (Reps.c5 (show Kd.M k35 _ _ _ (⟨11,2,4,0,0⟩:S35) [.int .i64 11,.int .i64 2,.int .i64 4,.int .i64 0,.int .i64 0] from (k35_mkM _ _ _ (⟨11,2,4,0,0⟩:S35) )) (Reps.c5 (show Kd.M k35 _ _ _ (⟨4,0,0,0,0⟩:S35) [.int .i64 4,.int .i64 0,.int .i64 0,.int .i64 0,.int .i64 0] from (k35_mkM _ _ _ (⟨4,0,0,0,0⟩:S35) )) (Reps.c5 (show Kd.M k35 _ _ _ (⟨2,26,15,0,0⟩:S35) [.int .i64 2,.int .i64 26,.int .i64 15,.int .i64 0,.int .i64 0] from (k35_mkM _ _ _ (⟨2,26,15,0,0⟩:S35) )) (Reps.c5 (show Kd.M k35 _ _ _ (⟨10,3,1,0,0⟩:S35) [.int .i64 10,.int .i64 3,.int .i64 1,.int .i64 0,.int .i64 0] from (k35_mkM _ _ _ (⟨10,3,1,0,0⟩:S35) )) (Reps.c5 (show Kd.M k35 _ _ _ (⟨4,0,0,0,0⟩:S35) [.int .i64 4,.int .i64 0,.int .i64 0,.int .i64 0,.int .i64 0] from (k35_mkM _ _ _ (⟨4,0,0,0,0⟩:S35) )) (Reps.c5 (show Kd.M k35 _ _ _ (⟨13,0,0,0,0⟩:S35) [.int .i64 13,.int .i64 0,.int .i64 0,.int .i64 0,.int .i64 0] from (k35_mkM _ _ _ (⟨13,0,0,0,0⟩:S35) )) (Reps.c5 (show Kd.M k35 _ _ _ (⟨4,0,0,0,0⟩:S35) [.int .i64 4,.int .i64 0,.int .i64 0,.int .i64 0,.int .i64 0] from (k35_mkM _ _ _ (⟨4,0,0,0,0⟩:S35) )) (Reps.none _ _)))))))))))))))))));intro aH w2 ay hb hg_ hnew_;clear hg_ hnew_;(rw [← ak.out] at ay);have ac:=ql ay HB;replace aa:=qb aa hb;replace HB:=qs HB hb;clear hb ay)|((with_reducible refine gate_dst (N:=29) rfl ?_);refine Kd.R_lit k35 _ 35 ?hg (N:=29) ?hd (xs:=([(⟨16,1,3,2,0⟩:S35),(⟨17,8,0,0,0⟩:S35),(⟨18,2,0,0,0⟩:S35),(⟨16,2,5,0,0⟩:S35),(⟨21,18,4,0,0⟩:S35),(⟨16,3,8,0,0⟩:S35),(⟨17,26,0,0,0⟩:S35),(⟨19,1,0,0,0⟩:S35),(⟨23,0,0,0,0⟩:S35),(⟨24,0,0,0,0⟩:S35)]:List (S35))) (inner:=[.int .i64 16,.int .i64 1,.int .i64 3,.int .i64 2,.int .i64 0,.int .i64 17,.int .i64 8,.int .i64 0,.int .i64 0,.int .i64 0,.int .i64 18,.int .i64 2,.int .i64 0,.int .i64 0,.int .i64 0,.int .i64 16,.int .i64 2,.int .i64 5,.int .i64 0,.int .i64 0,.int .i64 21,.int .i64 18,.int .i64 4,.int .i64 0,.int .i64 0,.int .i64 16,.int .i64 3,.int .i64 8,.int .i64 0,.int .i64 0,.int .i64 17,.int .i64 26,.int .i64 0,.int .i64 0,.int .i64 0,.int .i64 19,.int .i64 1,.int .i64 0,.int .i64 0,.int .i64 0,.int .i64 23,.int .i64 0,.int .i64 0,.int .i64 0,.int .i64 0,.int .i64 24,.int .i64 0,.int .i64 0,.int .i64 0,.int .i64 0]) (ok:=fun _=>True) (okp:=fun _=>True) ?hr ?hp (fun _ hk=>hk) trivial (Below.refl _ _) (Nat.le_refl _) (by simp) ?_;(case hd=>rfl);(case hg=>rfl);(case hr=>(go_simp;done));(case hp=>exact (Reps.c5 (show Kd.M k35 _ _ _ (⟨16,1,3,2,0⟩:S35) [.int .i64 16,.int .i64 1,.int .i64 3,.int .i64 2,.int .i64 0] from (k35_mkM _ _ _ (⟨16,1,3,2,0⟩:S35) )) (Reps.c5 (show Kd.M k35 _ _ _ (⟨17,8,0,0,0⟩:S35) [.int .i64 17,.int .i64 8,.int .i64 0,.int .i64 0,.int .i64 0] from (k35_mkM _ _ _ (⟨17,8,0,0,0⟩:S35) )) (Reps.c5 (show Kd.M k35 _ _ _ (⟨18,2,0,0,0⟩:S35) [.int .i64 18,.int .i64 2,.int .i64 0,.int .i64 0,.int .i64 0] from (k35_mkM _ _ _ (⟨18,2,0,0,0⟩:S35) )) (Reps.c5 (show Kd.M k35 _ _ _ (⟨16,2,5,0,0⟩:S35) [.int .i64 16,.int .i64 2,.int .i64 5,.int .i64 0,.int .i64 0] from (k35_mkM _ _ _ (⟨16,2,5,0,0⟩:S35) )) (Reps.c5 (show Kd.M k35 _ _ _ (⟨21,18,4,0,0⟩:S35) [.int .i64 21,.int .i64 18,.int .i64 4,.int .i64 0,.int .i64 0] from (k35_mkM _ _ _ (⟨21,18,4,0,0⟩:S35) )) (Reps.c5 (show Kd.M k35 _ _ _ (⟨16,3,8,0,0⟩:S35) [.int .i64 16,.int .i64 3,.int .i64 8,.int .i64 0,.int .i64 0] from (k35_mkM _ _ _ (⟨16,3,8,0,0⟩:S35) )) (Reps.c5 (show Kd.M k35 _ _ _ (⟨17,26,0,0,0⟩:S35) [.int .i64 17,.int .i64 26,.int .i64 0,.int .i64 0,.int .i64 0] from (k35_mkM _ _ _ (⟨17,26,0,0,0⟩:S35) )) (Reps.c5 (show Kd.M k35 _ _ _ (⟨19,1,0,0,0⟩:S35) [.int .i64 19,.int .i64 1,.int .i64 0,.int .i64 0,.int .i64 0] from (k35_mkM _ _ _ (⟨19,1,0,0,0⟩:S35) )) (Reps.c5 (show Kd.M k35 _ _ _ (⟨23,0,0,0,0⟩:S35) [.int .i64 23,.int .i64 0,.int .i64 0,.int .i64 0,.int .i64 0] from (k35_mkM _ _ _ (⟨23,0,0,0,0⟩:S35) )) (Reps.c5 (show Kd.M k35 _ _ _ (⟨24,0,0,0,0⟩:S35) [.int .i64 24,.int .i64 0,.int .i64 0,.int .i64 0,.int .i64 0] from (k35_mkM _ _ _ (⟨24,0,0,0,0⟩:S35) )) (Reps.none _ _))))))))))));intro aI w4 ap hb hg_ hnew_;clear hg_ hnew_;(rw [← al.out] at ap);have ah:=ql (qw ap ac) HB;replace ac:=qe ac ap hb;replace aa:=qb aa hb;replace HB:=qs HB hb;clear hb ap;obtain ⟨an,ao,aD⟩:=Kd.R_slice ah.out;subst aD;obtain ⟨ai,am,aE⟩:=Kd.R_slice ac.out;subst aE;refine qc3 aa fun aq ar au av aw ax=>?_))
 refine bodyPost_ret (results_cell_row rfl _ _ ab 30 #[.slice ai af.length am,.slice an ag.length ao,.slice none 0 0] (0,0) _ rfl (by refine blk_put (cs:=#[.slice ai af.length am,.slice an ag.length ao,.slice none 0 0]) ?_ 2 _ rfl;refine blk_put (cs:=#[.slice ai af.length am,.slice none 0 0,.slice none 0 0]) ?_ 1 _ rfl;refine blk_put (cs:=#[.slice none 0 0,.slice none 0 0,.slice none 0 0]) ?_ 0 _ rfl;exact aa.out) Try.underlying30 rfl (by kernel_rfl)) rfl ?_
 exact ⟨_,_,_,by (rfl),by exact Kd.R_mono (Kd.R_far (p:=⟨ab,2,none⟩) (Kd.R_far (p:=⟨ab,1,none⟩) (Kd.R_far (p:=⟨ab,0,none⟩) (Kd.R_types ac.out aa.out (by decide)) (fun _ hk=>hk.2) (.slice ai af.length am)) (fun _ hk=>hk.2) (.slice an ag.length ao)) (fun _ hk=>hk.2) (.slice none 0 0)) (fun _ hk=>hk.1.2),by exact Kd.R_mono (Kd.R_far (p:=⟨ab,2,none⟩) (Kd.R_far (p:=⟨ab,1,none⟩) (Kd.R_far (p:=⟨ab,0,none⟩) (Kd.R_types ah.out aa.out (by decide)) (fun _ hk=>hk.2) (.slice ai af.length am)) (fun _ hk=>hk.2) (.slice an ag.length ao)) (fun _ hk=>hk.2) (.slice none 0 0)) (fun _ hk=>hk.1.2),by (exact Kd.R_nil _ _ _ _ _),by repeat ((with_reducible first | exact HB.out | refine b_st ?_ aj.out))⟩
def lwBetter.f :Option ((List (S35)) × (List (S35)) × (List (S37))):=some ((([(⟨1,0,0,0,0⟩:S35),(⟨3,10,0,0,0⟩:S35),(⟨14,2,1,0,0⟩:S35),(⟨4,0,0,0,0⟩:S35),(⟨15,4,2,0,0⟩:S35),(⟨4,0,0,0,0⟩:S35),(⟨11,2,4,0,0⟩:S35),(⟨4,0,0,0,0⟩:S35),(⟨10,3,1,0,0⟩:S35),(⟨4,0,0,0,0⟩:S35),(⟨13,0,0,0,0⟩:S35),(⟨4,0,0,0,0⟩:S35)]:List (S35))),(([(⟨16,1,2,2,0⟩:S35),(⟨25,8,2,0,0⟩:S35),(⟨16,2,4,0,0⟩:S35),(⟨21,18,4,0,0⟩:S35),(⟨16,3,7,0,0⟩:S35),(⟨17,26,0,0,0⟩:S35),(⟨19,1,0,0,0⟩:S35),(⟨23,0,0,0,0⟩:S35),(⟨24,0,0,0,0⟩:S35)]:List (S35))),(([(⟨8,2⟩:S37),(⟨16,4⟩:S37),(⟨18,6⟩:S37),(⟨26,8⟩:S37)]:List (S37))))
set_option maxHeartbeats 8000000 in
set_option maxRecDepth 100000 in
theorem lwBetter.calls  (r1:List (S35)) (r2:List (S35)) (r3:List (S37)) (w:World) (h:lwBetter.f =some (r1,r2,r3)) :
    Calls Try.prog 23 #[] w fun e w'=>∃ aH aI aK:Value,e=.returned (.agg #[aH,aI,aK])∧Kd.R k35 35 w' w.heap.size (fun k_=>some k_≠(aI:Value).ownBlock) aH r1∧Kd.R k35 35 w' w.heap.size (fun k_=>some k_≠(aH:Value).ownBlock) aI r2∧Kd.R k37 37 w' w.heap.size (fun _=>True) aK r3∧Below w.heap.size w w':=by
 have aN:=Try.underlying30
 have aO:=Try.underlying35
 have aP:=Try.underlying37
 have HB:=Aside0.mk (Below.refl w.heap.size w)
 have H:(some ((([(⟨1,0,0,0,0⟩:S35),(⟨3,10,0,0,0⟩:S35),(⟨14,2,1,0,0⟩:S35),(⟨4,0,0,0,0⟩:S35),(⟨15,4,2,0,0⟩:S35),(⟨4,0,0,0,0⟩:S35),(⟨11,2,4,0,0⟩:S35),(⟨4,0,0,0,0⟩:S35),(⟨10,3,1,0,0⟩:S35),(⟨4,0,0,0,0⟩:S35),(⟨13,0,0,0,0⟩:S35),(⟨4,0,0,0,0⟩:S35)]:List (S35))),(([(⟨16,1,2,2,0⟩:S35),(⟨25,8,2,0,0⟩:S35),(⟨16,2,4,0,0⟩:S35),(⟨21,18,4,0,0⟩:S35),(⟨16,3,7,0,0⟩:S35),(⟨17,26,0,0,0⟩:S35),(⟨19,1,0,0,0⟩:S35),(⟨23,0,0,0,0⟩:S35),(⟨24,0,0,0,0⟩:S35)]:List (S35))),(([(⟨8,2⟩:S37),(⟨16,4⟩:S37),(⟨18,6⟩:S37),(⟨26,8⟩:S37)]:List (S37)))))=some (r1,r2,r3):=h
 clear h
 obtain ⟨ag,ah⟩:∃ y_:List (S35),y_=(([(⟨1,0,0,0,0⟩:S35),(⟨3,10,0,0,0⟩:S35),(⟨14,2,1,0,0⟩:S35),(⟨4,0,0,0,0⟩:S35),(⟨15,4,2,0,0⟩:S35),(⟨4,0,0,0,0⟩:S35),(⟨11,2,4,0,0⟩:S35),(⟨4,0,0,0,0⟩:S35),(⟨10,3,1,0,0⟩:S35),(⟨4,0,0,0,0⟩:S35),(⟨13,0,0,0,0⟩:S35),(⟨4,0,0,0,0⟩:S35)]:List (S35))):=⟨_,rfl⟩
 rw [← ah] at H
 have ap:=Aside0.mk ah
 clear ah
 obtain ⟨ak,ai⟩:∃ y_:List (S35),y_=(([(⟨16,1,2,2,0⟩:S35),(⟨25,8,2,0,0⟩:S35),(⟨16,2,4,0,0⟩:S35),(⟨21,18,4,0,0⟩:S35),(⟨16,3,7,0,0⟩:S35),(⟨17,26,0,0,0⟩:S35),(⟨19,1,0,0,0⟩:S35),(⟨23,0,0,0,0⟩:S35),(⟨24,0,0,0,0⟩:S35)]:List (S35))):=⟨_,rfl⟩
 rw [← ai] at H
 have aq:=Aside0.mk ai
 clear ai
 obtain ⟨al,aj⟩:∃ y_:List (S37),y_=(([(⟨8,2⟩:S37),(⟨16,4⟩:S37),(⟨18,6⟩:S37),(⟨26,8⟩:S37)]:List (S37))):=⟨_,rfl⟩
 rw [← aj] at H
 have ar:=Aside0.mk aj
 clear aj
 simp only [Option.some.injEq,Prod.mk.injEq] at H
 obtain ⟨rfl,rfl,rfl⟩:=H
 go_enter Try.func23,Try.ntmps23
 go_wp2_with (first | ((with_reducible refine gate_dst (N:=0) rfl ?_);refine box_event ?hg (N:=0) ?hd (cs:=#[.slice none 0 0,.slice none 0 0,.slice none 0 0]) (t:=30) ?hr ?_;(case hd=>rfl);(case hg=>rfl);(case hr=>(go_simp;done));intro ab hg w1 hbox hb;have aa:=Aside0.mk hbox;have aJ:=qz HB hg;have ao:=qz HB hg;replace HB:=qs HB hb;clear hb hbox hg)|((with_reducible refine gate_dst (N:=13) rfl ?_);refine Kd.R_lit k35 _ 35 ?hg (N:=13) ?hd (xs:=([(⟨1,0,0,0,0⟩:S35),(⟨3,10,0,0,0⟩:S35),(⟨14,2,1,0,0⟩:S35),(⟨4,0,0,0,0⟩:S35),(⟨15,4,2,0,0⟩:S35),(⟨4,0,0,0,0⟩:S35),(⟨11,2,4,0,0⟩:S35),(⟨4,0,0,0,0⟩:S35),(⟨10,3,1,0,0⟩:S35),(⟨4,0,0,0,0⟩:S35),(⟨13,0,0,0,0⟩:S35),(⟨4,0,0,0,0⟩:S35)]:List (S35))) (inner:=[.int .i64 1,.int .i64 0,.int .i64 0,.int .i64 0,.int .i64 0,.int .i64 3,.int .i64 10,.int .i64 0,.int .i64 0,.int .i64 0,.int .i64 14,.int .i64 2,.int .i64 1,.int .i64 0,.int .i64 0,.int .i64 4,.int .i64 0,.int .i64 0,.int .i64 0,.int .i64 0,.int .i64 15,.int .i64 4,.int .i64 2,.int .i64 0,.int .i64 0,.int .i64 4,.int .i64 0,.int .i64 0,.int .i64 0,.int .i64 0,.int .i64 11,.int .i64 2,.int .i64 4,.int .i64 0,.int .i64 0,.int .i64 4,.int .i64 0,.int .i64 0,.int .i64 0,.int .i64 0,.int .i64 10,.int .i64 3,.int .i64 1,.int .i64 0,.int .i64 0,.int .i64 4,.int .i64 0,.int .i64 0,.int .i64 0,.int .i64 0,.int .i64 13,.int .i64 0,.int .i64 0,.int .i64 0,.int .i64 0,.int .i64 4,.int .i64 0,.int .i64 0,.int .i64 0,.int .i64 0]) (ok:=fun _=>True) (okp:=fun _=>True) ?hr ?hp (fun _ hk=>hk) trivial (Below.refl _ _) (Nat.le_refl _) (by simp) ?_;(case hd=>rfl);(case hg=>rfl);(case hr=>(go_simp;done));(case hp=>exact (Reps.c5 (show Kd.M k35 _ _ _ (⟨1,0,0,0,0⟩:S35) [.int .i64 1,.int .i64 0,.int .i64 0,.int .i64 0,.int .i64 0] from (k35_mkM _ _ _ (⟨1,0,0,0,0⟩:S35) )) (Reps.c5 (show Kd.M k35 _ _ _ (⟨3,10,0,0,0⟩:S35) [.int .i64 3,.int .i64 10,.int .i64 0,.int .i64 0,.int .i64 0] from (k35_mkM _ _ _ (⟨3,10,0,0,0⟩:S35) )) (Reps.c5 (show Kd.M k35 _ _ _ (⟨14,2,1,0,0⟩:S35) [.int .i64 14,.int .i64 2,.int .i64 1,.int .i64 0,.int .i64 0] from (k35_mkM _ _ _ (⟨14,2,1,0,0⟩:S35) )) (Reps.c5 (show Kd.M k35 _ _ _ (⟨4,0,0,0,0⟩:S35) [.int .i64 4,.int .i64 0,.int .i64 0,.int .i64 0,.int .i64 0] from (k35_mkM _ _ _ (⟨4,0,0,0,0⟩:S35) )) (Reps.c5 (show Kd.M k35 _ _ _ (⟨15,4,2,0,0⟩:S35) [.int .i64 15,.int .i64 4,.int .i64 2,.int .i64 0,.int .i64 0] from (k35_mkM _ _ _ (⟨15,4,2,0,0⟩:S35) )) (Reps.c5 (show Kd.M k35 _ _ _ (⟨4,0,0,0,0⟩:S35) [.int .i64 4,.int .i64 0,.int .i64 0,.int .i64 0,.int .i64 0] from (k35_mkM _ _ _ (⟨4,0,0,0,0⟩:S35) )) (Reps.c5 (show Kd.M k35 _ _ _ (⟨11,2,4,0,0⟩:S35) [.int .i64 11,.int .i64 2,.int .i64 4,.int .i64 0,.int .i64 0] from (k35_mkM _ _ _ (⟨11,2,4,0,0⟩:S35) )) (Reps.c5 (show Kd.M k35 _ _ _ (⟨4,0,0,0,0⟩:S35) [.int .i64 4,.int .i64 0,.int .i64 0,.int .i64 0,.int .i64 0] from (k35_mkM _ _ _ (⟨4,0,0,0,0⟩:S35) )) (Reps.c5 (show Kd.M k35 _ _ _ (⟨10,3,1,0,0⟩:S35) [.int .i64 10,.int .i64 3,.int .i64 1,.int .i64 0,.int .i64 0] from (k35_mkM _ _ _ (⟨10,3,1,0,0⟩:S35) )) (Reps.c5 (show Kd.M k35 _ _ _ (⟨4,0,0,0,0⟩:S35) [.int .i64 4,.int .i64 0,.int .i64 0,.int .i64 0,.int .i64 0] from (k35_mkM _ _ _ (⟨4,0,0,0,0⟩:S35) )) (Reps.c5 (show Kd.M k35 _ _ _ (⟨13,0,0,0,0⟩:S35) [.int .i64 13,.int .i64 0,.int .i64 0,.int .i64 0,.int .i64 0] from (k35_mkM _ _ _ (⟨13,0,0,0,0⟩:S35) )) (Reps.c5 (show Kd.M k35 _ _ _ (⟨4,0,0,0,0⟩:S35) [.int .i64 4,.int .i64 0,.int .i64 0,.int .i64 0,.int .i64 0] from (k35_mkM _ _ _ (⟨4,0,0,0,0⟩:S35) )) (Reps.none _ _))))))))))))));intro aQ w2 aF hb hg_ hnew_;clear hg_ hnew_;(rw [← ap.out] at aF);have ac:=ql aF HB;replace aa:=qb aa hb;replace HB:=qs HB hb;clear hb aF)|((with_reducible refine gate_dst (N:=23) rfl ?_);refine Kd.R_lit k35 _ 35 ?hg (N:=23) ?hd (xs:=([(⟨16,1,2,2,0⟩:S35),(⟨25,8,2,0,0⟩:S35),(⟨16,2,4,0,0⟩:S35),(⟨21,18,4,0,0⟩:S35),(⟨16,3,7,0,0⟩:S35),(⟨17,26,0,0,0⟩:S35),(⟨19,1,0,0,0⟩:S35),(⟨23,0,0,0,0⟩:S35),(⟨24,0,0,0,0⟩:S35)]:List (S35))) (inner:=[.int .i64 16,.int .i64 1,.int .i64 2,.int .i64 2,.int .i64 0,.int .i64 25,.int .i64 8,.int .i64 2,.int .i64 0,.int .i64 0,.int .i64 16,.int .i64 2,.int .i64 4,.int .i64 0,.int .i64 0,.int .i64 21,.int .i64 18,.int .i64 4,.int .i64 0,.int .i64 0,.int .i64 16,.int .i64 3,.int .i64 7,.int .i64 0,.int .i64 0,.int .i64 17,.int .i64 26,.int .i64 0,.int .i64 0,.int .i64 0,.int .i64 19,.int .i64 1,.int .i64 0,.int .i64 0,.int .i64 0,.int .i64 23,.int .i64 0,.int .i64 0,.int .i64 0,.int .i64 0,.int .i64 24,.int .i64 0,.int .i64 0,.int .i64 0,.int .i64 0]) (ok:=fun _=>True) (okp:=fun _=>True) ?hr ?hp (fun _ hk=>hk) trivial (Below.refl _ _) (Nat.le_refl _) (by simp) ?_;(case hd=>rfl);(case hg=>rfl);(case hr=>(go_simp;done));(case hp=>exact (Reps.c5 (show Kd.M k35 _ _ _ (⟨16,1,2,2,0⟩:S35) [.int .i64 16,.int .i64 1,.int .i64 2,.int .i64 2,.int .i64 0] from (k35_mkM _ _ _ (⟨16,1,2,2,0⟩:S35) )) (Reps.c5 (show Kd.M k35 _ _ _ (⟨25,8,2,0,0⟩:S35) [.int .i64 25,.int .i64 8,.int .i64 2,.int .i64 0,.int .i64 0] from (k35_mkM _ _ _ (⟨25,8,2,0,0⟩:S35) )) (Reps.c5 (show Kd.M k35 _ _ _ (⟨16,2,4,0,0⟩:S35) [.int .i64 16,.int .i64 2,.int .i64 4,.int .i64 0,.int .i64 0] from (k35_mkM _ _ _ (⟨16,2,4,0,0⟩:S35) )) (Reps.c5 (show Kd.M k35 _ _ _ (⟨21,18,4,0,0⟩:S35) [.int .i64 21,.int .i64 18,.int .i64 4,.int .i64 0,.int .i64 0] from (k35_mkM _ _ _ (⟨21,18,4,0,0⟩:S35) )) (Reps.c5 (show Kd.M k35 _ _ _ (⟨16,3,7,0,0⟩:S35) [.int .i64 16,.int .i64 3,.int .i64 7,.int .i64 0,.int .i64 0] from (k35_mkM _ _ _ (⟨16,3,7,0,0⟩:S35) )) (Reps.c5 (show Kd.M k35 _ _ _ (⟨17,26,0,0,0⟩:S35) [.int .i64 17,.int .i64 26,.int .i64 0,.int .i64 0,.int .i64 0] from (k35_mkM _ _ _ (⟨17,26,0,0,0⟩:S35) )) (Reps.c5 (show Kd.M k35 _ _ _ (⟨19,1,0,0,0⟩:S35) [.int .i64 19,.int .i64 1,.int .i64 0,.int .i64 0,.int .i64 0] from (k35_mkM _ _ _ (⟨19,1,0,0,0⟩:S35) )) (Reps.c5 (show Kd.M k35 _ _ _ (⟨23,0,0,0,0⟩:S35) [.int .i64 23,.int .i64 0,.int .i64 0,.int .i64 0,.int .i64 0] from (k35_mkM _ _ _ (⟨23,0,0,0,0⟩:S35) )) (Reps.c5 (show Kd.M k35 _ _ _ (⟨24,0,0,0,0⟩:S35) [.int .i64 24,.int .i64 0,.int .i64 0,.int .i64 0,.int .i64 0] from (k35_mkM _ _ _ (⟨24,0,0,0,0⟩:S35) )) (Reps.none _ _)))))))))));intro aR w4 aD hb hg_ hnew_;clear hg_ hnew_;(rw [← aq.out] at aD);have ad:=ql (qw aD ac) HB;replace ac:=qe ac aD hb;replace aa:=qb aa hb;replace HB:=qs HB hb;clear hb aD)|((with_reducible refine gate_dst (N:=28) rfl ?_);refine Kd.R_lit k37 _ 37 ?hg (N:=28) ?hd (xs:=([(⟨8,2⟩:S37),(⟨16,4⟩:S37),(⟨18,6⟩:S37),(⟨26,8⟩:S37)]:List (S37))) (inner:=[.int .i64 8,.int .i64 2,.int .i64 16,.int .i64 4,.int .i64 18,.int .i64 6,.int .i64 26,.int .i64 8]) (ok:=fun _=>True) (okp:=fun _=>True) ?hr ?hp (fun _ hk=>hk) trivial (Below.refl _ _) (Nat.le_refl _) (by simp) ?_;(case hd=>rfl);(case hg=>rfl);(case hr=>(go_simp;done));(case hp=>exact (Reps.c2 (show Kd.M k37 _ _ _ (⟨8,2⟩:S37) [.int .i64 8,.int .i64 2] from (k37_mkM _ _ _ (⟨8,2⟩:S37) )) (Reps.c2 (show Kd.M k37 _ _ _ (⟨16,4⟩:S37) [.int .i64 16,.int .i64 4] from (k37_mkM _ _ _ (⟨16,4⟩:S37) )) (Reps.c2 (show Kd.M k37 _ _ _ (⟨18,6⟩:S37) [.int .i64 18,.int .i64 6] from (k37_mkM _ _ _ (⟨18,6⟩:S37) )) (Reps.c2 (show Kd.M k37 _ _ _ (⟨26,8⟩:S37) [.int .i64 26,.int .i64 8] from (k37_mkM _ _ _ (⟨26,8⟩:S37) )) (Reps.none _ _))))));intro aS w6 aG hb hg_ hnew_;clear hg_ hnew_;(rw [← ar.out] at aG);replace ac:=qB ac hb;replace ad:=qB ad hb;have am:=ql aG HB;replace aa:=qb aa hb;replace HB:=qs HB hb;clear hb aG;obtain ⟨av,aw,aL⟩:=Kd.R_slice am.out;subst aL;obtain ⟨an,au,aM⟩:=Kd.R_slice ad.out;subst aM;obtain ⟨ae,af,aE⟩:=Kd.R_slice ac.out;subst aE;refine qc3 aa fun ax ay az aA aB aC=>?_))
 refine bodyPost_ret (results_cell_row rfl _ _ ab 30 #[.slice ae ag.length af,.slice an ak.length au,.slice av al.length aw] (0,0) _ rfl (by refine blk_put (cs:=#[.slice ae ag.length af,.slice an ak.length au,.slice none 0 0]) ?_ 2 _ rfl;refine blk_put (cs:=#[.slice ae ag.length af,.slice none 0 0,.slice none 0 0]) ?_ 1 _ rfl;refine blk_put (cs:=#[.slice none 0 0,.slice none 0 0,.slice none 0 0]) ?_ 0 _ rfl;exact aa.out) Try.underlying30 rfl (by kernel_rfl)) rfl ?_
 exact ⟨_,_,_,by (rfl),by exact Kd.R_mono (Kd.R_far (p:=⟨ab,2,none⟩) (Kd.R_far (p:=⟨ab,1,none⟩) (Kd.R_far (p:=⟨ab,0,none⟩) (Kd.R_types ac.out aa.out (by decide)) (fun _ hk=>hk.2) (.slice ae ag.length af)) (fun _ hk=>hk.2) (.slice an ak.length au)) (fun _ hk=>hk.2) (.slice av al.length aw)) (fun _ hk=>hk.1.2),by exact Kd.R_mono (Kd.R_far (p:=⟨ab,2,none⟩) (Kd.R_far (p:=⟨ab,1,none⟩) (Kd.R_far (p:=⟨ab,0,none⟩) (Kd.R_types ad.out aa.out (by decide)) (fun _ hk=>hk.2) (.slice ae ag.length af)) (fun _ hk=>hk.2) (.slice an ak.length au)) (fun _ hk=>hk.2) (.slice av al.length aw)) (fun _ hk=>hk.1.2),by exact Kd.R_mono (Kd.R_far (p:=⟨ab,2,none⟩) (Kd.R_far (p:=⟨ab,1,none⟩) (Kd.R_far (p:=⟨ab,0,none⟩) (Kd.R_types am.out aa.out (by decide)) (fun _ hk=>hk.2) (.slice ae ag.length af)) (fun _ hk=>hk.2) (.slice an ak.length au)) (fun _ hk=>hk.2) (.slice av al.length aw)) (fun _ hk=>trivial),by repeat ((with_reducible first | exact HB.out | refine b_st ?_ ao.out))⟩
end Go.Proofs.Ytedghbjmhcgilaa.POpt
end
