import Derived.Ground.SlsfProg
import Derived.OwnWalk
import Derived.Shelf.SlSortCmp.NoneTotal
import Derived.Test.YtedghbjmhcgilaaKp3
import Derived.Test.YtedghbjmhcgilaaKp5
set_option linter.unusedVariables false
set_option linter.unusedSimpArgs false
section
namespace Go.Proofs
open Go.Shelf Go.RowKit Go.Lib Go.Sort
def Try.sortLine_ren:Go.Shelf.Ren:=⟨fun | 6=>35 | 15=>56 | 14=>55 | 28=>87 | 29=>88 | 20=>79 | 21=>80 | 22=>81 | 23=>82 | 24=>83 | 25=>84 | 26=>85 | 27=>86 | 46=>100 | 47=>101 | 48=>102 | 49=>103 | 50=>104 | 57=>106 | n=>n,fun | 22=>28 | 24=>37 | 25=>52 | 3=>3 | 39=>74 | 0=>0 | 53=>98 | 55=>100 | 4=>4 | 46=>91 | 45=>90 | 50=>95 | 5=>5 | 9=>9 | 66=>106 | 70=>61 | 76=>113 | 77=>114 | n=>n,fun | n=>n⟩
theorem Try.sortLine:Go.Proofs.SlLaysF0.n6 Try.prog Try.sortLine_ren:={
 mixed:=by kernel_rfl
 f6:=⟨Try.f35.name,by decide,Try.func35.trans (congrArg some (by kernel_rfl))⟩
 f14:=⟨Try.f55.name,by decide,Try.func55.trans (congrArg some (by kernel_rfl))⟩
 f15:=Try.func56.trans (congrArg some (by kernel_rfl))
 f20:=⟨Try.f79.name,by decide,Try.func79.trans (congrArg some (by kernel_rfl))⟩
 f21:=⟨Try.f80.name,by decide,Try.func80.trans (congrArg some (by kernel_rfl))⟩
 f22:=⟨Try.f81.name,by decide,Try.func81.trans (congrArg some (by kernel_rfl))⟩
 f23:=⟨Try.f82.name,by decide,Try.func82.trans (congrArg some (by kernel_rfl))⟩
 f24:=⟨Try.f83.name,by decide,Try.func83.trans (congrArg some (by kernel_rfl))⟩
 f25:=⟨Try.f84.name,by decide,Try.func84.trans (congrArg some (by kernel_rfl))⟩
 f26:=⟨Try.f85.name,by decide,Try.func85.trans (congrArg some (by kernel_rfl))⟩
 f27:=⟨Try.f86.name,by decide,Try.func86.trans (congrArg some (by kernel_rfl))⟩
 f28:=Try.func87.trans (congrArg some (by kernel_rfl))
 f29:=Try.func88.trans (congrArg some (by kernel_rfl))
 f46:=⟨Try.f100.name,by decide,Try.func100.trans (congrArg some (by kernel_rfl))⟩
 f47:=Try.func101.trans (congrArg some (by kernel_rfl))
 f48:=Try.func102.trans (congrArg some (by kernel_rfl))
 f49:=⟨Try.f103.name,by decide,Try.func103.trans (congrArg some (by kernel_rfl))⟩
 f50:=⟨Try.f104.name,by decide,Try.func104.trans (congrArg some (by kernel_rfl))⟩
 f57:=⟨Try.f106.name,by decide,Try.func106.trans (congrArg some (by kernel_rfl))⟩
 t0:=Try.underlying0
 a0:=Try.isAgg0
 z0:=Try.sizeOf0
 v0:=Try.zeroValue0
 t3:=Try.underlying3
 a3:=Try.isAgg3
 z3:=Try.sizeOf3
 v3:=Try.zeroValue3
 t4:=Try.underlying4
 a4:=Try.isAgg4
 z4:=Try.sizeOf4
 v4:=Try.zeroValue4
 t5:=Try.underlying5
 a5:=Try.isAgg5
 z5:=Try.sizeOf5
 v5:=Try.zeroValue5
 t9:=Try.underlying9
 a9:=Try.isAgg9
 z9:=Try.sizeOf9
 v9:=Try.zeroValue9
 t22:=Try.underlying28
 a22:=Try.isAgg28
 z22:=Try.sizeOf28
 v22:=Try.zeroValue28
 t25:=Try.underlying52
 a25:=Try.isAgg52
 z25:=Try.sizeOf52
 v25:=Try.zeroValue52
 t39:=Try.underlying74
 a39:=Try.isAgg74
 z39:=Try.sizeOf74
 v39:=Try.zeroValue74
 t45:=Try.underlying90
 a45:=Try.isAgg90
 z45:=Try.sizeOf90
 v45:=Try.zeroValue90
 t46:=Try.underlying91
 a46:=Try.isAgg91
 z46:=Try.sizeOf91
 v46:=Try.zeroValue91
 t50:=Try.underlying95
 a50:=Try.isAgg95
 z50:=Try.sizeOf95
 v50:=Try.zeroValue95
 t53:=Try.underlying98
 a53:=Try.isAgg98
 z53:=Try.sizeOf98
 v53:=Try.zeroValue98
 t55:=Try.underlying100
 a55:=Try.isAgg100
 z55:=Try.sizeOf100
 v55:=Try.zeroValue100
 t66:=Try.underlying106
 a66:=Try.isAgg106
 z66:=Try.sizeOf106
 v66:=Try.zeroValue106
 t70:=Try.underlying61
 a70:=Try.isAgg61
 z70:=Try.sizeOf61
 v70:=Try.zeroValue61
 t76:=Try.underlying113
 a76:=Try.isAgg113
 z76:=Try.sizeOf113
 v76:=Try.zeroValue113
 t77:=Try.underlying114
 a77:=Try.isAgg114
 z77:=Try.sizeOf114
 v77:=Try.zeroValue114 }
end Go.Proofs
namespace Go.Proofs.Ytedghbjmhcgilaa.A
open Go.RowKit Go.Shelf Go.Lib Go.Sort Go.Proofs.YtedghbjmhcgilaaW.PrintWords Go.Proofs.YtedghbjmhcgilaaW.PrintLast Go.Proofs.YtedghbjmhcgilaaW.PrintMore
open Go.Proofs.Ytedghbjmhcgilaa.POpt
abbrev TagLine (R:List S37):Type:={ x:S37 // x ∈ R∧0≤x.f0∧x.f0≤4611686018427387904 }
def encLine {R:List S37} (x:TagLine R):List Value:=[.int .i64 x.1.f0,.int .i64 x.1.f1]
def byTag {R:List S37} (x y:TagLine R):Int:=x.1.f0 - y.1.f0
theorem ltTag {R:List S37} (x y:TagLine R):ltOf byTag x y=decide (x.1.f0 < y.1.f0):=by
 unfold ltOf byTag
 by_cases h:x.1.f0 < y.1.f0
 ·simp [h];omega
 ·simp [h];omega
theorem swoTag {R:List S37}:SWO (ltOf (byTag (R:=R))) where
 irrefl x:=by rw [ltTag];simp
 trans x y z h1 h2:=by rw [ltTag] at *;simp at *;omega
 ntrans x y z h1 h2:=by rw [ltTag] at *;simp at *;omega
set_option maxHeartbeats 1000000 in
theorem Tables1_calls {R:List S37} (x y:TagLine R) (W:World):Calls Try.prog 36 #[.agg #[.int .i64 x.1.f0,.int .i64 x.1.f1],.agg #[.int .i64 y.1.f0,.int .i64 y.1.f1]] W fun e w'=>e=.returned (.int .i64 (byTag x y))∧∃ q os',w'=grow (W.drewN q) os':=by
 obtain ⟨x,_,hx0,hx1⟩:=x
 obtain ⟨y,_,hy0,hy1⟩:=y
 unfold byTag
 dsimp only
 go_enter Try.func36,Try.ntmps36
 go_wp2
 go_ret
 exact ⟨rfl,0,_,by rw [alloc_eq_grow,alloc_eq_grow,grow_grow];rfl⟩
end Go.Proofs.Ytedghbjmhcgilaa.A
end
