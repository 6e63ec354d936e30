import Derived.BigQuiet
import Derived.RangeFuncWrites
import Derived.Sort.QuietIn
import Derived.Test.YtedghbjmhcgilaaKp12
set_option linter.unusedVariables false
set_option linter.unusedSimpArgs false
section
namespace Go.Proofs.Ytedghbjmhcgilaa.A
open Go.RowKit Go.Shelf Go.Proofs.YtedghbjmhcgilaaW.PrintWords Go.Proofs.YtedghbjmhcgilaaW.PrintLast Go.Proofs.YtedghbjmhcgilaaW.PrintMore
open Go.Proofs.Ytedghbjmhcgilaa.POpt
attribute [local go_sem] Oper.semAt_some
set_option maxHeartbeats 400000 in
theorem places_calls (v0 v1:Value) (A0 A1:Option Addr) (n0 c0 n1 c1:Nat) (w:World) (e0:v0=.slice A0 n0 c0) (e1:v1=.slice A1 n1 c1) :
  Calls Try.prog 43 #[v0,v1] w fun e w'=>e=.returned (.func (.func 59) #[] #[.pointer (some ⟨w.heap.size,0,none⟩),.pointer (some ⟨w.heap.size+1,0,none⟩)])∧(w.alloc (.cells #[v0] 27)).alloc (.cells #[v1] 28)=w':=by
 subst e0 e1
 go_enter Try.func43,Try.ntmps43
 go_wp2
 go_ret
 exact ⟨rfl,rfl⟩
theorem list_some {l:List S35} (h:l.length < 3518437208883):api_Ins_42.f l=some l:=by
 unfold api_Ins_42.f
 rw [if_pos (by omega),if_pos (by omega)]
 simp only [Option.bind_some,List.length_nil,Nat.zero_add,List.nil_append]
 rw [if_pos h]
theorem listL_some {l:List S37} (h:l.length < 8796093022208):api_Line_54.f l=some l:=by
 unfold api_Line_54.f
 rw [if_pos (by omega),if_pos (by omega)]
 simp only [Option.bind_some,List.length_nil,Nat.zero_add,List.nil_append]
 rw [if_pos h]
theorem copied_some {l0 l1:List S35} {l2:List S37} (h0:l0.length < 3518437208883) (h1:l1.length < 3518437208883) (h2:l2.length < 8796093022208):opt_copied.f l0 l1 l2=some (l0,l1,l2):=by
 unfold opt_copied.f
 rw [list_some h0,list_some h1,listL_some h2]
 rfl
def fitB (l0 l1:List S35) (l2:List S37):Bool:=decide (l0.length < 3518437208883) && decide (l1.length < 3518437208883) && decide (l2.length < 8796093022208)
theorem fitB_iff {l0 l1:List S35} {l2:List S37}:fitB l0 l1 l2=true↔l0.length < 3518437208883∧l1.length < 3518437208883∧l2.length < 8796093022208:=by
 unfold fitB;simp [and_assoc]
set_option maxRecDepth 100000 in
set_option maxHeartbeats 2000000 in
theorem Thread_calls (A0:Option Addr) (c0:Nat) (l0:List S35) (A1:Option Addr) (c1:Nat) (l1:List S35) (A2:Option Addr) (c2:Nat) (l2:List S37) (w:World)
  (hr0:Kd.C k35 w A0 l0.length l0) (hc0:l0.length≤c0) (hr1:Kd.C k35 w A1 l1.length l1) (hc1:l1.length≤c1) (hr2:Kd.C k37 w A2 l2.length l2) (hc2:l2.length≤c2)
  (hs0:l0.length≤140737488355328) (hs2:l2.length≤140737488355328) (hl:api_Ins_42.f l0=some l0) (hcp:opt_copied.f l0 l1 l2=some (l0,l1,l2)) :
  Calls Try.prog 15 #[.agg #[.slice A0 l0.length c0,.slice A1 l1.length c1,.slice A2 l2.length c2]] w fun e w'=>∃ v0_ v1_ v2_:Value,e=.returned (.agg #[v0_,v1_,v2_])∧Kd.R k35 35 w' w.heap.size (fun k_=>some k_≠(v1_:Value).ownBlock) v0_ (l0.map (placed (thr l0)))∧Kd.R k35 35 w' w.heap.size (fun k_=>some k_≠(v0_:Value).ownBlock) v1_ l1∧Kd.R k37 37 w' w.heap.size (fun _=>True) v2_ (l2.map (placedR (thr l0)))∧Below w.heap.size w w':=by
 refine (callsIn_wide (n:=8)).1 ?_
 refine callsIn_of_wp_marks Try.func15 rfl trivial ?_ rfl
 simp only [Try.ntmps15,List.size_toArray,List.length_cons,List.length_nil,Nat.reduceAdd,Nat.reduceSub,Array.replicate_succ,Array.replicate_zero,List.push_toArray,List.append_toArray,List.nil_append,List.cons_append]
 have HR0:=Lib.hid hr0
 have HR1:=Lib.hid hr1
 have HR2:=Lib.hid hr2
 have HL:=Lib.hid hl
 have HCP:=Lib.hid hcp
 clear hr0 hr1 hr2 hl hcp
 gi_wp2_with fail
 refine ⟨trivial,?_⟩
 refine (callsIn_wide.2 (api_Ins_42.calls A0 c0 l0 l0 _ (Kd.C_below HR0.out ((((Below.refl _ _).alloc (Nat.le_refl _) _).alloc (by simp) _))) hc0 HL.out)).mono ?_
 rintro e w1 ⟨v0,rfl,hR0,hB0⟩
 obtain ⟨Ao,co,eo⟩:=Kd.R_slice hR0
 subst eo
 have b1:w1.heap[w.heap.size]?=some (.cells #[.slice A0 l0.length c0,.slice A1 l1.length c1,.slice A2 l2.length c2] 30 (0,0)):=blk_below (bk_a (blk_new _ _) _) hB0
 have b2:w1.heap[w.heap.size+1]?=some (.cells #[.slice none 0 0,.slice none 0 0,.slice none 0 0] 30 (0,0)):=blk_below (by have:=blk_new (w.alloc (.cells #[.slice A0 l0.length c0,.slice A1 l1.length c1,.slice A2 l2.length c2] 30)) (.cells #[.slice none 0 0,.slice none 0 0,.slice none 0 0] 30);simpa using this) hB0
 have hBw:Below w.heap.size w w1:=((((Below.refl _ _).alloc (Nat.le_refl _) _).alloc (by simp) _)).trans (hB0.mono (by simp;omega))
 have hRold:=Kd.R_bound hR0
 simp only [World.size_alloc] at hRold
 have z1:=hB0.size
 simp only [World.size_alloc] at z1
 have z1a:w.heap.size < w1.heap.size:=by omega
 have z1b:w.heap.size+1 < w1.heap.size:=by omega
 clear hR0 hB0
 have k1a:=bk_c b1 0
 have k1b:=bk_c b1 1
 have k1c:=bk_c b1 2
 simp only [List.getElem?_toArray,List.getElem?_cons_zero,List.getElem?_cons_succ] at k1a k1b k1c
 have B1:=Lib.hid b1
 have B2:=Lib.hid b2
 have HRold:=Lib.hid hRold
 have HBw:=Lib.hid hBw
 clear b1 b2 hRold hBw
 gi_wp2_with fail
 refine ⟨trivial,?_⟩
 have hbw2:Below w.heap.size w (w1.alloc (.cells #[.slice Ao l0.length co] 27)):=HBw.out.alloc (by omega) _
 refine (callsIn_wide.2 (opt_copied.calls A0 c0 l0 A1 c1 l1 A2 c2 l2 l0 l1 l2 _ (Kd.C_below HR0.out hbw2) hc0 (Kd.C_below HR1.out hbw2) hc1 (Kd.C_below HR2.out hbw2) hc2 HCP.out)).mono ?_
 rintro e w2 ⟨v0,v1,v2,rfl,hV0,hV1,hV2,hB1⟩
 obtain ⟨a0,d0,e0⟩:=Kd.R_slice hV0
 obtain ⟨a1,d1,e1⟩:=Kd.R_slice hV1
 obtain ⟨a2,d2,e2⟩:=Kd.R_slice hV2
 have b1:w2.heap[w.heap.size]?=some (.cells #[.slice A0 l0.length c0,.slice A1 l1.length c1,.slice A2 l2.length c2] 30 (0,0)):=blk_below (bk_a B1.out _) hB1
 have b2:w2.heap[w.heap.size+1]?=some (.cells #[.slice none 0 0,.slice none 0 0,.slice none 0 0] 30 (0,0)):=blk_below (bk_a B2.out _) hB1
 have b3:w2.heap[w1.heap.size]?=some (.cells #[.slice Ao l0.length co] 27 (0,0)):=blk_below (blk_new _ _) hB1
 have hBw':Below w.heap.size w w2:=hbw2.trans (hB1.mono (by simp;omega))
 have hRo:Kd.R k35 35 w2 _ _ _ _:=Kd.R_below (Kd.R_alloc HRold.out _) hB1
 have hV0':=Kd.R_bound hV0
 have hV1':=Kd.R_bound hV1
 have hV2':=Kd.R_bound hV2
 simp only [World.size_alloc] at hV0' hV1' hV2'
 have z2:=hB1.size
 simp only [World.size_alloc] at z2
 have z2a:w.heap.size < w2.heap.size:=by omega
 have z2b:w.heap.size+1 < w2.heap.size:=by omega
 have z2c:w1.heap.size < w2.heap.size:=by omega
 clear hbw2 hV0 hV1 hV2 hB1 B1 B2 HRold HBw k1a k1b k1c
 subst e0 e1 e2
 have k1a:=bk_c b1 0
 have k1b:=bk_c b1 1
 have k1c:=bk_c b1 2
 have f1a:=bk_f b1 0
 have f1b:=bk_f b1 1
 have f1c:=bk_f b1 2
 simp only [List.getElem?_toArray,List.getElem?_cons_zero,List.getElem?_cons_succ] at k1a k1b k1c
 have B1:=Lib.hid b1
 have B2:=Lib.hid b2
 have B3:=Lib.hid b3
 have HRo:=Lib.hid hRo
 have HV0:=Lib.hid hV0'
 have HV1:=Lib.hid hV1'
 have HV2:=Lib.hid hV2'
 have HBw:=Lib.hid hBw'
 clear b1 b2 b3 hRo hV0' hV1' hV2' hBw'
 gi_wp2_with fail
 refine ⟨trivial,?_⟩
 refine (callsIn_wide.2 (places_calls _ _ a0 a2 l0.length d0 l2.length d2 _ rfl rfl)).mono ?_
 rintro e w3 ⟨rfl,hw3⟩
 gi_wp2_with fail
 have zz3:w3.heap.size=w2.heap.size+2:=by rw [← hw3];simp [World.setCell]
 have h3at:∀ k,k < w2.heap.size→k≠w.heap.size→w3.heap[k]?=w2.heap[k]?:=fun k h1 h2=>by
  rw [← hw3,Below.heap_alloc _ _ _ (by simp [World.setCell];omega),Below.heap_alloc _ _ _ (by simp [World.setCell];omega),Below.heap_setCell _ _ _ _ h2,Below.heap_setCell _ _ _ _ h2,Below.heap_setCell _ _ _ _ h2]
 have b1:w3.heap[w.heap.size]?=some (.cells #[.slice a0 l0.length d0,.slice a1 l1.length d1,.slice a2 l2.length d2] 30 (0,0)):=by
  rw [← hw3]
  exact bk_a (bk_a (blk_set (blk_set (blk_set B1.out 0 _) 1 _) 2 _) _) _
 have b2:=(h3at _ z2b (by omega)).trans B2.out
 have b3:=(h3at _ z2c (by omega)).trans B3.out
 have c1':w3.heap[w2.heap.size]?=some (.cells #[.slice a0 l0.length d0] 27 (0,0)):=by
  rw [← hw3]
  have:=bk_a (blk_new (((w2.setCell ⟨w.heap.size,0,none⟩ (.slice a0 l0.length d0)).setCell ⟨w.heap.size,1,none⟩ (.slice a1 l1.length d1)).setCell ⟨w.heap.size,2,none⟩ (.slice a2 l2.length d2)) (.cells #[.slice a0 l0.length d0] 27)) (.cells #[.slice a2 l2.length d2] 28)
  simpa [World.setCell] using this
 have c2':w3.heap[w2.heap.size+1]?=some (.cells #[.slice a2 l2.length d2] 28 (0,0)):=by
  rw [← hw3]
  have:=blk_new ((((w2.setCell ⟨w.heap.size,0,none⟩ (.slice a0 l0.length d0)).setCell ⟨w.heap.size,1,none⟩ (.slice a1 l1.length d1)).setCell ⟨w.heap.size,2,none⟩ (.slice a2 l2.length d2)).alloc (.cells #[.slice a0 l0.length d0] 27)) (.cells #[.slice a2 l2.length d2] 28)
  simpa [World.setCell] using this
 have hBw3:Below w.heap.size w w3:=by
  rw [← hw3]
  exact ((((HBw.out.setCell (p:=⟨w.heap.size,0,none⟩) (Nat.le_refl _) _).setCell (p:=⟨w.heap.size,1,none⟩) (Nat.le_refl _) _).setCell (p:=⟨w.heap.size,2,none⟩) (Nat.le_refl _) _).alloc (by simp [World.setCell];omega) _).alloc (by simp [World.setCell];omega) _
 clear hw3
 have hV0:=Kd.R_move HV0.out (w1:=w3) (fun k hk=>h3at k hk.2.2.1 (by have:=hk.2.1;omega))
 have hV1:=Kd.R_move HV1.out (w1:=w3) (fun k hk=>h3at k hk.2.2.1 (by have:=hk.2.1;omega))
 have hV2:=Kd.R_move HV2.out (w1:=w3) (fun k hk=>h3at k hk.2.2.1 (by have:=hk.2.1;omega))
 have hRo:=Kd.R_move HRo.out (w1:=w3) (fun k hk=>h3at k (by have:=hk.2.2.1;omega) (by have:=hk.2.1;omega))
 clear HV0 HV1 HV2 HRo B1 B2 B3 HBw k1a k1b k1c f1a f1b f1c
 obtain ⟨gS,hS,sS⟩:∃ gS,(0 < l0.length→a0=some ⟨gS,0,none⟩)∧((w1.heap.size+1≤gS∧gS < w2.heap.size∧0 < l0.length∧∃ cells,w2.heap[gS]?=some (.cells cells 35 (0,0)))∨(l0.length=0∧gS=w3.heap.size+5)):=by
  by_cases hn:0 < l0.length
  ·obtain ⟨g,cells,hA,hbg,hgl,hok,hh,_,_⟩:=R_shape hV0 hn (by show 0 < 5;omega)
   exact ⟨g,fun _=>hA,.inl ⟨hok.2.1,hok.2.2.1,hn,cells,(h3at g hok.2.2.1 (by have:=hok.2.1;omega)).symm.trans hh⟩⟩
  ·exact ⟨_,fun h=>absurd h hn,.inr ⟨by omega,rfl⟩⟩
 obtain ⟨gR,hR,sR⟩:∃ gR,(0 < l2.length→a2=some ⟨gR,0,none⟩)∧((w1.heap.size+1≤gR∧gR < w2.heap.size∧0 < l2.length∧∃ cells,w2.heap[gR]?=some (.cells cells 37 (0,0)))∨(l2.length=0∧gR=w3.heap.size+6)):=by
  by_cases hn:0 < l2.length
  ·obtain ⟨g,cells,hA,hbg,hgl,hok,hh,_,_⟩:=R_shape hV2 hn (by show 0 < 2;omega)
   exact ⟨g,fun _=>hA,.inl ⟨hok.2.1,hok.2.2.1,hn,cells,(h3at g hok.2.2.1 (by have:=hok.2.1;omega)).symm.trans hh⟩⟩
  ·exact ⟨_,fun h=>absurd h hn,.inr ⟨by omega,rfl⟩⟩
 have hne:gS≠gR:=by
  rintro rfl
  rcases sS with ⟨h1,h2,_,cs,h3⟩ | ⟨_,h1⟩ <;> rcases sR with ⟨h4,h5,_,cs',h6⟩ | ⟨_,h4⟩
  ·rw [h3] at h6;injection h6 with h6;injection h6 with _ h6;exact absurd h6 (by decide)
  ·omega
  ·omega
  ·omega
 have hlen:(l0.map S35.f0).length=l0.length:=List.length_map _
 have hop:∀ i,i < (l0.map S35.f0).length→w3.cell? ⟨gS,0+i*5,none⟩=some (.int .i64 ((l0.map S35.f0).getD i 0)):=by
  intro i hi
  rw [hlen] at hi
  obtain ⟨Ax,cx,he,hl,hC⟩:=Kd.R_reads hV0
  injection he with e1 e2 e3
  subst e1
  rw [hS (by omega)] at hC
  obtain ⟨ad,ead,q0,q1,q2,q3,q4⟩:=at_T35 hC (i:Int) (by omega) (by omega)
  injection ead with ead
  subst ead
  simp only [Int.toNat_natCast,Addr.add_lit] at q0
  rw [q0]
  simp [rdQ,List.getD,hi]
 obtain ⟨okS,hV0,hoS1,hoS2,hoS3⟩:∃ okS:Nat→Prop,k35.R 35 w3 (w1.heap.size+1) okS (.slice a0 l0.length d0) l0∧(∀ k,okS k→w1.heap.size+1≤k∧k < w2.heap.size)∧(∀ k,okS k→k≠gR)∧∀ k,okS k→some k≠(Value.slice a1 l1.length d1).ownBlock:=⟨_,hV0,fun k hk=>⟨hk.2.1,hk.2.2.1⟩,fun k hk=>by
  obtain ⟨_,q1,q2,q,hq,cs,hc⟩:=hk
  rintro rfl
  rcases sR with ⟨_,_,_,cs',h6⟩ | ⟨_,h6⟩
  ·rw [hc] at h6;injection h6 with h6;injection h6 with _ h6;subst h6;exact absurd hq (by decide)
  ·omega,fun k hk=>hk.1⟩
 obtain ⟨okR,hV2,hoR1,hoR2⟩:∃ okR:Nat→Prop,k37.R 37 w3 (w1.heap.size+1) okR (.slice a2 l2.length d2) l2∧(∀ k,okR k→w1.heap.size+1≤k∧k < w2.heap.size)∧∀ k,okR k→k≠gS:=⟨_,hV2,fun k hk=>⟨hk.2.1,hk.2.2.1⟩,fun k hk=>by
  obtain ⟨_,q1,q2,q,hq,cs,hc⟩:=hk
  rintro rfl
  rcases sS with ⟨_,_,_,cs',h6⟩ | ⟨_,h6⟩
  ·rw [hc] at h6;injection h6 with h6;injection h6 with _ h6;subst h6;exact absurd hq (by decide)
  ·omega⟩
 obtain ⟨ok1,hV1,ho11,ho12,ho13⟩:∃ ok1:Nat→Prop,k35.R 35 w3 (w1.heap.size+1) ok1 (.slice a1 l1.length d1) l1∧(∀ k,ok1 k→w1.heap.size+1≤k∧k < w2.heap.size)∧(∀ k,ok1 k→k≠gS∧k≠gR)∧∀ k,ok1 k→some k≠(Value.slice a0 l0.length d0).ownBlock:=⟨_,hV1,fun k hk=>⟨hk.2.1,hk.2.2.1⟩,fun k hk=>by
  obtain ⟨q0,q1,q2,q,hq,cs,hc⟩:=hk
  constructor
  ·rintro rfl
   rcases sS with ⟨_,_,hn,cs',h6⟩ | ⟨_,h6⟩
   ·rw [hS hn] at q0;exact q0 rfl
   ·omega
  ·rintro rfl
   rcases sR with ⟨_,_,_,cs',h6⟩ | ⟨_,h6⟩
   ·rw [hc] at h6;injection h6 with h6;injection h6 with _ h6;subst h6;exact absurd hq (by decide)
   ·omega,fun k hk=>hk.1⟩
 have hb0:Below w3.heap.size w3 w3:=Below.refl _ _
 have hI0:PInv (thr l0) w.heap.size w w3 gS gR (w1.heap.size+1) okS okR (.slice a0 l0.length d0) (.slice a2 l2.length d2) l0 l2 [] w3:=⟨Nat.le_refl _,hBw3,fun _ _ _ _=>rfl,hV0,hV2⟩
 have hrd:Kd.C k35 w3 Ao l0.length l0:=by
  obtain ⟨Ax,cx,he,hl,hC⟩:=Kd.R_reads hRo
  injection he with e1 e2 e3
  subst e1
  exact hC
 refine wpIn_rangeFunc_ownG rfl (by omega) (gf:=59) (lb:=#[.pointer (some ⟨w2.heap.size,0,none⟩),.pointer (some ⟨w2.heap.size+1,0,none⟩)]) rfl trivial (enters_of Try.func59 (by kernel_rfl) rfl)
  (places_stops 7 (by omega) w2.heap.size (w2.heap.size+1) gS 0 gR 0 (l0.map S35.f0) d0 l2.length d2 a0 a2 w3 (by rw [hlen];exact hS) hR (by rw [hlen];omega) (by omega) (by omega) (by omega) (by rw [hlen];intro h;rcases sS with ⟨_,q1,_⟩ | ⟨q1,_⟩ <;> omega)
   (by rw [hlen];exact (bk_c c1' 0).trans rfl) ((bk_c c2' 0).trans rfl) hop)
  (fun h k=>h.trans k) (fun W l o o' h1 h2 h3 h4=>KpF_put W l o o' h1 h2 h3 h4) hb0 (by intro x;rfl)
  (fun pre W=>PInv (thr l0) w.heap.size w w3 gS gR (w1.heap.size+1) okS okR (.slice a0 l0.length d0) (.slice a2 l2.length d2) l0 l2 (pre.map Subtype.val) W) (fun _ _ _=>False)
  (fun s A B row hs hg hr=>hs.move (fun k hk=>by have:=hoS1 k hk;omega) (fun k hk=>by have:=hoR1 k hk;omega) hg (fun r e=>(hr r e).1) (by omega))
  (fun _ _ _ _ _ hs _ _=>hs) hI0 (fun x=>{ tmps:=#[.agg #[.slice A0 l0.length c0,.slice A1 l1.length c1,.slice A2 l2.length c2],.pointer (some ⟨w.heap.size,0,none⟩),.pointer (some ⟨w.heap.size+1,0,none⟩),.pointer (some ⟨w1.heap.size,0,none⟩),.int .i64 x.1.1,.pointer (some x.1.2),.pointer (some ⟨w.heap.size,0,none⟩),.slice A0 l0.length c0,.slice Ao l0.length co,.agg #[.slice A0 l0.length c0,.slice A1 l1.length c1,.slice A2 l2.length c2],.agg #[.slice a0 l0.length d0,.slice a1 l1.length d1,.slice a2 l2.length d2],.pointer (some ⟨w.heap.size,0,none⟩),.slice a0 l0.length d0,.pointer (some ⟨w.heap.size,2,none⟩),.slice a2 l2.length d2,.func (.func 59) #[] #[.pointer (some ⟨w2.heap.size,0,none⟩),.pointer (some ⟨w2.heap.size+1,0,none⟩)],.int .i64 x.1.1,.pointer (some x.1.2),undef,undef,undef,undef,undef,undef,undef,undef,undef,undef,undef,undef,undef,undef,undef,undef,undef,undef,undef,undef,undef,undef,undef,undef,undef,undef,undef,undef,undef,undef,undef,undef,undef,undef,undef,undef,undef,undef,undef,undef,undef,undef,undef,undef,undef,undef,undef,undef,undef,undef,undef],defers:=[] }) ?assign ?body ?done ?stop
 case assign =>
  intro l x W K hK
  simp only [encsP]
  gi_wp2
  exact hK
 case stop =>
  rintro D c pre W _ _ h _
  exact h.elim
 case done =>
  rintro D xs W hD hxs hI hK
  have hst:=hI.same
  have hsz:=hI.size
  have e1:=(hst w.heap.size (by omega) (by rcases sS with ⟨q1,q2,_⟩ | ⟨_,q1⟩ <;> omega) (by rcases sR with ⟨q1,q2,_⟩ | ⟨_,q1⟩ <;> omega)).trans b1
  have e2:=(hst (w.heap.size+1) (by omega) (by rcases sS with ⟨q1,q2,_⟩ | ⟨_,q1⟩ <;> omega) (by rcases sR with ⟨q1,q2,_⟩ | ⟨_,q1⟩ <;> omega)).trans b2
  have hW1:=Kd.R_move hV1 (w1:=W) (fun k hk=>hst k (by have:=ho11 k hk;omega) (ho12 k hk).1 (ho12 k hk).2)
  have HI:=Lib.hid hI
  have HW1:=Lib.hid hW1
  have E2:=Lib.hid e2
  have HK:=Lib.hid hK
  have HX:=Lib.hid hxs
  have k1a:=bk_c e1 0
  have k1b:=bk_c e1 1
  have k1c:=bk_c e1 2
  have k2a:=bk_c e2 0
  have k2b:=bk_c e2 1
  have k2c:=bk_c e2 2
  have f2a:=bk_f e2 0
  have f2b:=bk_f e2 1
  have f2c:=bk_f e2 2
  simp only [List.getElem?_toArray,List.getElem?_cons_zero,List.getElem?_cons_succ] at k1a k1b k1c k2a k2b k2c
  clear hI e1 e2 hK hxs hst b1 b2 b3 c1' c2' hBw3 hV0 hV1 hV2 hRo hI0 hop h3at hb0 hrd hW1
  gi_wp2
  have hK2:=((KeepsOthers.setCell W ⟨w.heap.size+1,0,none⟩ (.slice a0 l0.length d0)).trans ((KeepsOthers.setCell _ ⟨w.heap.size+1,1,none⟩ (.slice a1 l1.length d1)).trans (KeepsOthers.setCell _ ⟨w.heap.size+1,2,none⟩ (.slice a2 l2.length d2)))).same D _ HK.out rfl
  have hE2:=blk_set (blk_set (blk_set E2.out 0 (.slice a0 l0.length d0)) 1 (.slice a1 l1.length d1)) 2 (.slice a2 l2.length d2)
  have hsame:∀ k,k < w3.heap.size→k≠w.heap.size+1→((((W.setCell ⟨w.heap.size+1,0,none⟩ (.slice a0 l0.length d0)).setCell ⟨w.heap.size+1,1,none⟩ (.slice a1 l1.length d1)).setCell ⟨w.heap.size+1,2,none⟩ (.slice a2 l2.length d2)).putObj D (.deferred none)).heap[k]?=W.heap[k]?:=by
   intro k h1 h2
   rw [(grownBy_putObj' _ D _).block k (by simp [World.setCell];omega) (by intro e;injection e with e;omega),Below.heap_setCell _ _ _ _ h2,Below.heap_setCell _ _ _ _ h2,Below.heap_setCell _ _ _ _ h2]
  have hE3:=((grownBy_putObj' (((W.setCell ⟨w.heap.size+1,0,none⟩ (.slice a0 l0.length d0)).setCell ⟨w.heap.size+1,1,none⟩ (.slice a1 l1.length d1)).setCell ⟨w.heap.size+1,2,none⟩ (.slice a2 l2.length d2)) D (.deferred none)).block (w.heap.size+1) (by simp [World.setCell];omega) (by intro e;injection e with e;omega)).trans hE2
  refine ⟨by simp,.inl ⟨_,_,rfl,run_takeDeferred hK2,?_⟩⟩
  refine ⟨_,results_cell_row rfl _ _ (w.heap.size+1) 30 _ (0,0) _ rfl hE3 Try.underlying30 rfl (by kernel_rfl),?_⟩
  have hst:=HI.out.steps
  have hrw:=HI.out.rows
  rw [HX.out] at hst hrw
  rw [fold_steps hne] at hst
  rw [fold_rows hne] at hrw
  refine ⟨_,_,_,rfl,?_,?_,?_,?_⟩
  ·exact Kd.R_mono (Kd.R_lower (Kd.R_move hst (fun k hk=>hsame k (by have:=hoS1 k hk;omega) (by have:=hoS1 k hk;omega))) (by omega)) hoS3
  ·exact Kd.R_mono (Kd.R_lower (Kd.R_move HW1.out (fun k hk=>hsame k (by have:=ho11 k hk;omega) (by have:=ho11 k hk;omega))) (by omega)) ho13
  ·exact Kd.R_mono (Kd.R_lower (Kd.R_move hrw (fun k hk=>hsame k (by have:=hoR1 k hk;omega) (by have:=hoR1 k hk;omega))) (by omega)) (fun _ _=>trivial)
  ·have hb3:=((HI.out.below.setCell (p:=⟨w.heap.size+1,0,none⟩) (by show w.heap.size≤w.heap.size+1;omega) (.slice a0 l0.length d0)).setCell (p:=⟨w.heap.size+1,1,none⟩) (by show w.heap.size≤w.heap.size+1;omega) (.slice a1 l1.length d1)).setCell (p:=⟨w.heap.size+1,2,none⟩) (by show w.heap.size≤w.heap.size+1;omega) (.slice a2 l2.length d2)
   exact hb3.grown (grownBy_putObj' _ D _) hb3.size (fun k e=>by injection e with e;omega)
 case body =>
  rintro l pre ⟨⟨op,p⟩,hmem⟩ W hI hlen'
  have hst:=hI.same
  have hsz:=hI.size
  have e3:=(hst w1.heap.size (by omega) (by rcases sS with ⟨q1,q2,_⟩ | ⟨_,q1⟩ <;> omega) (by rcases sR with ⟨q1,q2,_⟩ | ⟨_,q1⟩ <;> omega)).trans b3
  obtain ⟨c,pb,po,hx2,hcell,hfr,hpl⟩:∃ c pb po,p=⟨pb,po,none⟩∧W.cell? ⟨pb,po,none⟩=some (.int .i64 c)∧W.frozen? ⟨pb,po,none⟩=false∧((∃ i j,(j=1∨j=2)∧pb=gS∧po=i*5+j∧0 < l0.length)∨(pb=gR∧0 < l2.length)):=by
   rcases hI.cell hS hR rfl rfl hlen hmem with ⟨i,j,hi,h12,hx2,hc,hf⟩ | ⟨i,hi,hx2,hc,hf⟩
   ·dsimp only at hx2 hc hf
    rw [hx2] at hc hf
    exact ⟨_,_,_,hx2,hc,hf,.inl ⟨i,j,h12,rfl,rfl,by omega⟩⟩
   ·dsimp only at hx2 hc hf
    rw [hx2] at hc hf
    exact ⟨_,_,_,hx2,hc,hf,.inr ⟨rfl,by omega⟩⟩
  have hpb:w1.heap.size+1≤pb∧pb < w2.heap.size:=by
   rcases hpl with ⟨_,_,_,rfl,_,hn⟩ | ⟨rfl,hn⟩
   ·rcases sS with ⟨q1,q2,_⟩ | ⟨q1,_⟩ <;> omega
   ·rcases sR with ⟨q1,q2,_⟩ | ⟨q1,_⟩ <;> omega
  have hrW:∀ i:Int,0≤i→i < l0.length→∃ gO,Ao=some ⟨gO,0,none⟩∧gO < w1.heap.size∧W.cell? ⟨gO,i.toNat*5,none⟩=some (.int .i64 (rdQ l0 i).f0)∧W.cell? ⟨gO,i.toNat*5+1,none⟩=some (.int .i64 (rdQ l0 i).f1):=by
   intro i h0 h1
   have hRW:=Kd.R_move hRo (w1:=W) (fun k hk=>hst k (by have:=hk.2.2.1;omega) (by have:=hk.2.2.1;rcases sS with ⟨q1,q2,_⟩ | ⟨_,q1⟩ <;> omega) (by have:=hk.2.2.1;rcases sR with ⟨q1,q2,_⟩ | ⟨_,q1⟩ <;> omega))
   obtain ⟨g,cells,hA,_,_,hok,hh,_,_⟩:=R_shape hRW (by omega) (by show 0 < 5;omega)
   subst hA
   obtain ⟨Ax,cx,he,hl,hC⟩:=Kd.R_reads hRW
   injection he with e1 e2 e3
   subst e1
   obtain ⟨ad,ead,q0,q1,q2,q3,q4⟩:=at_T35 hC i h0 h1
   injection ead with ead
   subst ead
   simp only [Addr.add_lit,Nat.zero_add] at q0 q1
   exact ⟨g,rfl,hok.2.2.1,q0,q1⟩
  subst hx2
  have hfin:∀ q,KeepsFrom w3.heap.size W ((W.setCell ⟨pb,po,none⟩ (.int .i64 (thr l0 op c))).drewN q)∧KpF (FixI w2.heap.size (w2.heap.size+1) gS 0 (l0.map S35.f0).length) W ((W.setCell ⟨pb,po,none⟩ (.int .i64 (thr l0 op c))).drewN q) ∧
    PInv (thr l0) w.heap.size w w3 gS gR (w1.heap.size+1) okS okR (.slice a0 l0.length d0) (.slice a2 l2.length d2) l0 l2 ((pre ++ [(⟨(op,⟨pb,po,none⟩),hmem⟩:PlaceOf gS 0 (l0.map S35.f0) gR 0 l2.length)]).map Subtype.val) ((W.setCell ⟨pb,po,none⟩ (.int .i64 (thr l0 op c))).drewN q):=by
   intro q
   refine ⟨?_,KpF_of_cells (fun a ha=>?_),?_⟩
   ·exact (keeps_set W _ _ q).from _
   ·rw [World.cell?_drewN]
    refine World.cell?_setCell_other _ _ _ _ ?_
    rcases ha with rfl | rfl | ⟨i,hi,rfl⟩
    ·intro e;injection e with e;omega
    ·intro e;injection e with e;omega
    ·rcases hpl with ⟨i',j',h12,e1,e2,hn⟩ | ⟨e1,hn⟩
     ·intro e;injection e with e e';omega
     ·intro e;injection e with e;exact hne (by omega)
   ·rw [List.map_append]
    exact hI.set hS hR rfl rfl hlen hne (fun k hk=>hoS2 k hk) (fun k hk=>hoR2 k hk) (by rcases sS with ⟨q1,q2,_⟩ | ⟨_,q1⟩ <;> omega) (by rcases sR with ⟨q1,q2,_⟩ | ⟨_,q1⟩ <;> omega) hmem c hcell q
  have FIN:=Lib.hid hfin
  clear hfin
  have HI:=Lib.hid hI
  have HRW:=Lib.hid hrW
  have HPL:=Lib.hid hpl
  have HM:=Lib.hid hmem
  have k3:=bk_c e3 0
  simp only [List.getElem?_toArray,List.getElem?_cons_zero,List.getElem?_cons_succ] at k3
  have HC:=Lib.hid hcell
  have HF:=Lib.hid hfr
  have hself:=Lib.hid (setCell_self hcell)
  have hmx:Try.prog.follows .mixedOrders=true:=by kernel_rfl
  clear hI hst b1 b2 b3 e3 c1' c2' hBw3 hV0 hV1 hV2 hRo hI0 hop h3at hb0 hrd hlen' hrW hpl hcell hfr
  dsimp only
  gi_wp2
  gi_loopw [20] (fun s20 wr=>∃ (k q:Nat) (v:Int),k≤l0.length∧s20=.int .i64 k∧Aside (v=it l0 op k c)∧Aside (wr=(W.setCell ⟨pb,po,none⟩ (.int .i64 v)).drewN q)) (fun s20 _=>l0.length - (intOf s20).toNat)
  case atStart=>exact ⟨0,0,c,Nat.zero_le _,rfl,⟨rfl⟩,⟨by rw [hself.out];rfl⟩⟩
  case round =>
   obtain ⟨k,q,v,hk,rfl,HV,HW⟩:=hrel
   by_cases hlt:k < l0.length
   ·have hltz:(k:Int) < (l0.length:Int):=by omega
    have r3:wr.cell? ⟨w1.heap.size,0,none⟩=some (.slice Ao l0.length co):=by rw [HW.out,World.cell?_drewN,World.cell?_setCell_other _ _ _ _ (by intro e;injection e with e;omega)];exact k3
    have r1:wr.cell? ⟨pb,po,none⟩=some (.int .i64 v):=by rw [HW.out,World.cell?_drewN];exact World.cell?_setCell_same' _ _ _ (by rw [HC.out];rfl)
    have r2:wr.frozen? ⟨pb,po,none⟩=false:=by rw [HW.out];show (W.setCell _ _).frozen? _=_;rw [World.frozen?_setCell];exact HF.out
    have hend:∀ nq,hop l0 op v=none→KeepsFrom w3.heap.size W (wr.drewN nq)∧KpF (FixI w2.heap.size (w2.heap.size+1) gS 0 (l0.map S35.f0).length) W (wr.drewN nq) ∧
      PInv (thr l0) w.heap.size w w3 gS gR (w1.heap.size+1) okS okR (.slice a0 l0.length d0) (.slice a2 l2.length d2) l0 l2 ((pre ++ [(⟨(op,⟨pb,po,none⟩),hmem⟩:PlaceOf gS 0 (l0.map S35.f0) gR 0 l2.length)]).map Subtype.val) (wr.drewN nq):=by
     intro nq hstop
     have hv:v=thr l0 op c:=by
      have:=it_stop (old:=l0) (op:=op) (c:=c) (k:=k) (by rw [← HV.out];exact hstop) (l0.length - k)
      rw [show k+(l0.length - k)=l0.length from by omega] at this
      rw [HV.out];exact this.symm
     rw [HW.out,World.drewN_drewN,hv]
     exact FIN.out _
    have HEND:=Lib.hid hend
    clear hend
    have hgo:∀ v',hop l0 op v=some v'→v'=it l0 op (k+1) c:=by
     intro v' h
     rw [it,← HV.out,h];rfl
    have HGO:=Lib.hid hgo
    clear hgo
    have hset:∀ n1 v' n2,((wr.drewN n1).setCell ⟨pb,po,none⟩ (.int .i64 v')).drewN n2=(W.setCell ⟨pb,po,none⟩ (.int .i64 v')).drewN (q+n1+n2):=by
     intro n1 v' n2
     rw [HW.out]
     exact set_set_drew W _ _ _ q n1 n2
    have HSET:=Lib.hid hset
    clear hset
    by_cases h1:v < 0
    ·have t1:decide (v < 0)=true:=decide_eq_true h1
     have H1:=Lib.hid h1
     clear h1
     gi_wp2
     refine wpIn_region_quiet_round hmx (by kernel_rfl) (by kernel_rfl) ?_
     repeat (gi_big_quiet_step (fail))
     refine wpQuietIn_nil ?_
     intro _ hw'
     obtain ⟨nq,hw''⟩:=hw'
     subst hw''
     gi_wp2
     exact HEND.out _ (by unfold hop;rw [if_pos H1.out])
    have t1:decide (v < 0)=false:=decide_eq_false h1
    by_cases h2:(l0.length:Int)≤v
    ·have t2:decide ((l0.length:Int)≤v)=true:=decide_eq_true h2
     have H1:=Lib.hid h1
     have H2:=Lib.hid h2
     clear h1 h2
     gi_wp2
     refine wpIn_region_quiet_round hmx (by kernel_rfl) (by kernel_rfl) ?_
     repeat (gi_big_quiet_step (fail))
     refine wpQuietIn_nil ?_
     intro _ hw'
     obtain ⟨nq,hw''⟩:=hw'
     subst hw''
     gi_wp2
     exact HEND.out _ (by unfold hop;rw [if_neg (by have:=H1.out;omega),if_pos H2.out])
    have t2:decide ((l0.length:Int)≤v)=false:=decide_eq_false h2
    obtain ⟨gO,eO,hgO,r4,r5⟩:=HRW.out v (by omega) (by omega)
    have r4':wr.cell? ⟨gO,v.toNat*5,none⟩=some (.int .i64 (rdQ l0 v).f0):=by rw [HW.out,World.cell?_drewN,World.cell?_setCell_other _ _ _ _ (by intro e;injection e with e;omega)];exact r4
    have r5':wr.cell? ⟨gO,v.toNat*5+1,none⟩=some (.int .i64 (rdQ l0 v).f1):=by rw [HW.out,World.cell?_drewN,World.cell?_setCell_other _ _ _ _ (by intro e;injection e with e;omega)];exact r5
    clear r4 r5
    subst eO
    have b0:0≤v:=by omega
    have bn:v < (l0.length:Int):=by omega
    have HOP:=Lib.hid (show hop l0 op v=(if (rdQ l0 v).f0≠4 then none else if op≠4∧(rdQ l0 v).f1=0 then none else some (rdQ l0 v).f1) from by unfold hop;rw [if_neg h1,if_neg h2])
    generalize (rdQ l0 v).f0=f0 at r4' HOP
    generalize (rdQ l0 v).f1=f1 at r5' HOP
    clear h1 h2
    by_cases h3:f0≠4
    ·have t3:(f0 != 4)=true:=by rw [bne_iff_ne];exact h3
     have H3:=Lib.hid h3
     clear h3
     gi_wp2
     refine wpIn_region_quiet_round hmx (by kernel_rfl) (by kernel_rfl) ?_
     repeat (gi_big_quiet_step (fail))
     refine wpQuietIn_nil ?_
     intro _ hw'
     obtain ⟨nq,hw''⟩:=hw'
     subst hw''
     gi_wp2
     exact HEND.out _ (by rw [HOP.out,if_pos H3.out])
    have h3':f0=4:=Decidable.not_not.1 h3
    have t3:(f0 != 4)=false:=by rw [h3'];rfl
    have H3:=Lib.hid h3'
    clear h3 h3'
    by_cases h4:op=4
    ·have t4:(op != 4)=false:=by rw [h4];rfl
     have H4:=Lib.hid h4
     clear h4
     have HOP2:=Lib.hid (show hop l0 op v=some f1 from by rw [HOP.out,if_neg (by simp [H3.out]),if_neg (by simp [H4.out])])
     gi_wp2
     refine wpIn_region_quiet_round hmx (by kernel_rfl) (by kernel_rfl) ?_
     repeat (gi_big_quiet_step (fail))
     refine wpQuietIn_nil ?_
     intro _ hw'
     obtain ⟨nq,hw''⟩:=hw'
     subst hw''
     gi_wp2
     gi_region_with_o (fail)
     all_goals gi_wp2
     all_goals exact ⟨⟨k+1,_,f1,by omega,by go_num,⟨HGO.out f1 HOP2.out⟩,⟨HSET.out (nq+1) f1 0⟩⟩,by simp [intOf];omega⟩
    have t4:(op != 4)=true:=by rw [bne_iff_ne];exact h4
    by_cases h5:f1=0
    ·have t5:(f1 == 0)=true:=by rw [h5];rfl
     have H5:=Lib.hid h5
     have H4:=Lib.hid h4
     clear h4 h5
     gi_wp2
     refine wpIn_region_quiet_round hmx (by kernel_rfl) (by kernel_rfl) ?_
     repeat (gi_big_quiet_step (fail))
     refine wpQuietIn_nil ?_
     intro _ hw'
     obtain ⟨nq,hw''⟩:=hw'
     subst hw''
     gi_wp2
     exact HEND.out _ (by rw [HOP.out,if_neg (by simp [H3.out]),if_pos ⟨H4.out,H5.out⟩])
    ·have t5:(f1 == 0)=false:=beq_eq_false_iff_ne.mpr h5
     have H5:=Lib.hid h5
     have H4:=Lib.hid h4
     clear h4 h5
     have HOP2:=Lib.hid (show hop l0 op v=some f1 from by rw [HOP.out,if_neg (by simp [H3.out]),if_neg (fun h=>H5.out h.2)])
     gi_wp2
     refine wpIn_region_quiet_round hmx (by kernel_rfl) (by kernel_rfl) ?_
     repeat (gi_big_quiet_step (fail))
     refine wpQuietIn_nil ?_
     intro _ hw'
     obtain ⟨nq,hw''⟩:=hw'
     subst hw''
     gi_wp2
     gi_region_with_o (fail)
     all_goals gi_wp2
     all_goals exact ⟨⟨k+1,_,f1,by omega,by go_num,⟨HGO.out f1 HOP2.out⟩,⟨HSET.out (nq+1) f1 0⟩⟩,by simp [intOf];omega⟩
   ·have hkn:k=l0.length:=by omega
    subst hkn
    gi_wp2
    have hv:v=thr l0 op c:=HV.out
    rw [HW.out,hv]
    exact FIN.out _
end Go.Proofs.Ytedghbjmhcgilaa.A
end
