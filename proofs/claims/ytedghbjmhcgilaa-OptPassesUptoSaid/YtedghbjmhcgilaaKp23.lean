import Derived.KernelRfl
import Derived.Test.YtedghbjmhcgilaaKp21
set_option linter.unusedVariables false
set_option linter.unusedSimpArgs false
section
namespace Go.Proofs.Ytedghbjmhcgilaa.A
open Go.RowKit Go.Proofs.YtedghbjmhcgilaaW.PrintWords Go.Proofs.YtedghbjmhcgilaaW.PrintLast Go.Proofs.YtedghbjmhcgilaaW.PrintMore
open Go.Proofs.Ytedghbjmhcgilaa.POpt
def lowD:List S35:=[⟨1,0,0,0,0⟩,⟨2,8,5,0,0⟩,⟨5,2,0,0,0⟩,⟨7,1,0,0,0⟩,⟨4,0,0,0,0⟩,⟨2,16,9,0,0⟩,⟨5,4,0,0,0⟩,⟨8,2,0,0,0⟩,⟨4,0,0,0,0⟩,⟨2,18,12,0,0⟩,⟨11,2,4,0,0⟩,⟨4,0,0,0,0⟩,⟨2,26,15,0,0⟩,⟨10,3,1,0,0⟩,⟨4,0,0,0,0⟩,⟨13,0,0,0,0⟩,⟨4,0,0,0,0⟩]
def lowE:List S35:=[⟨16,1,3,2,0⟩,⟨17,8,0,0,0⟩,⟨18,2,0,0,0⟩,⟨16,2,5,0,0⟩,⟨21,18,4,0,0⟩,⟨16,3,8,0,0⟩,⟨17,26,0,0,0⟩,⟨19,1,0,0,0⟩,⟨23,0,0,0,0⟩,⟨24,0,0,0,0⟩]
def betD:List S35:=[⟨1,0,0,0,0⟩,⟨3,10,0,0,0⟩,⟨14,2,1,0,0⟩,⟨4,0,0,0,0⟩,⟨15,4,2,0,0⟩,⟨4,0,0,0,0⟩,⟨11,2,4,0,0⟩,⟨4,0,0,0,0⟩,⟨10,3,1,0,0⟩,⟨4,0,0,0,0⟩,⟨13,0,0,0,0⟩,⟨4,0,0,0,0⟩]
def betE:List S35:=[⟨16,1,2,2,0⟩,⟨25,8,2,0,0⟩,⟨16,2,4,0,0⟩,⟨21,18,4,0,0⟩,⟨16,3,7,0,0⟩,⟨17,26,0,0,0⟩,⟨19,1,0,0,0⟩,⟨23,0,0,0,0⟩,⟨24,0,0,0,0⟩]
def betR:List S37:=[⟨8,2⟩,⟨16,4⟩,⟨18,6⟩,⟨26,8⟩]
theorem low_f:cartouchelaw13_Lowered.f=some (lowD,lowE,[]):=rfl
theorem better_f:lwBetter.f=some (betD,betE,betR):=rfl
theorem sortRows_rising {R:List S37} (h:Rising R):sortRows R=R:=by
 have ho:Once R:=h.imp (fun hxy=>by omega)
 exact rising_unique (rising_sort ho) h (fun x=>mem_sortRows)
def tabD:List S35:=lowD.set 1 ⟨3,15,0,0,0⟩
def tabR:List S37:=[⟨8,2⟩,⟨16,6⟩,⟨18,10⟩,⟨26,13⟩]
theorem low_tables:TablesF lowD lowE []=some (tabD,lowE,tabR):=by
 have h1:okB lowD lowE []=true:=by kernel_rfl
 have h2:tagB lowD=true:=by kernel_rfl
 unfold TablesF
 rw [if_pos h1,if_pos h2]
 have h3:tabGo lowD lowD.length [] 1=(tabR,15):=by kernel_rfl
 unfold tabP
 rw [if_neg (by decide),h3]
 have h4:Rising tabR:=by unfold Rising tabR;simp
 rw [sortRows_rising h4]
 rfl
theorem low_fuse:FuseF tabD lowE tabR=some ((fuseP tabD tabR).1,(fuseP lowE []).1,(fuseP tabD tabR).2)∧ThreadF (fuseP tabD tabR).1 (fuseP lowE []).1 (fuseP tabD tabR).2=some ((fuseP tabD tabR).1.map (placed (thr (fuseP tabD tabR).1)),(fuseP lowE []).1,(fuseP tabD tabR).2.map (placedR (thr (fuseP tabD tabR).1))) ∧
  TrimF 200 ((fuseP tabD tabR).1.map (placed (thr (fuseP tabD tabR).1))) (fuseP lowE []).1 ((fuseP tabD tabR).2.map (placedR (thr (fuseP tabD tabR).1)))=some (betD,betE,betR):=by
 refine ⟨?_,?_,?_⟩
 ·unfold FuseF;rw [if_pos (by kernel_rfl)]
 ·unfold ThreadF;rw [if_pos (by kernel_rfl)]
 ·kernel_rfl
theorem low_block:opt_Block.f 200 lowD lowE []=some (betD,betE,betR):=by
 show BlockF 200 lowD lowE []=_
 unfold BlockF
 obtain ⟨h1,h2,h3⟩:=low_fuse
 rw [low_tables]
 simp only [Option.bind_some]
 rw [h1]
 simp only [Option.bind_some]
 rw [h2]
 simp only [Option.bind_some]
 exact h3
theorem awake_true:lwawake.f 200=some true:=by
 unfold lwawake.f
 rw [low_f]
 simp only [Option.bind_some]
 rw [low_block]
 simp only [Option.bind_some]
 rw [better_f]
 simp only [Option.bind_some]
 have h:lwsame.f 200 betD betE betR betD betE betR=some true:=by kernel_rfl
 rw [h]
 rfl
end Go.Proofs.Ytedghbjmhcgilaa.A
end
