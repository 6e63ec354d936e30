import Derived.Test.YtedghbjmhcgilaaKp5
import Derived.Test.YtedghbjmhcgilaaKp17
set_option linter.unusedVariables false
set_option linter.unusedSimpArgs false
section
namespace Go.Proofs.Ytedghbjmhcgilaa.POpt
open Go.RowKit Go.Proofs.YtedghbjmhcgilaaW.PrintWords Go.Proofs.YtedghbjmhcgilaaW.PrintLast Go.Proofs.YtedghbjmhcgilaaW.PrintMore
def rgdec.f (l0_0:List (S30)) (l1_0:List (S35)) (l1_1:List (S35)) (l1_2:List (S37)):Option (Bool):=if l1_0.length≤35184372088832 then (if l1_2.length≤35184372088832 then some (A.decB l0_0 l1_0 l1_2) else none) else none
theorem rgdec.calls (A0_0:Option Addr) (c0_0:Nat) (l0_0:List (S30)) (A1_0:Option Addr) (c1_0:Nat) (l1_0:List (S35)) (A1_1:Option Addr) (c1_1:Nat) (l1_1:List (S35)) (A1_2:Option Addr) (c1_2:Nat) (l1_2:List (S37)) (r:Bool) (w:World) (hr0_0:Kd.C k30 w A0_0 l0_0.length l0_0) (hc0_0:l0_0.length≤c0_0) (hr1_0:Kd.C k35 w A1_0 l1_0.length l1_0) (hc1_0:l1_0.length≤c1_0) (hr1_1:Kd.C k35 w A1_1 l1_1.length l1_1) (hc1_1:l1_1.length≤c1_1) (hr1_2:Kd.C k37 w A1_2 l1_2.length l1_2) (hc1_2:l1_2.length≤c1_2) (h:rgdec.f l0_0 l1_0 l1_1 l1_2=some r) :
  Calls Try.prog 31 #[.agg #[.slice A0_0 l0_0.length c0_0],.agg #[.slice A1_0 l1_0.length c1_0,.slice A1_1 l1_1.length c1_1,.slice A1_2 l1_2.length c1_2]] w fun e w'=>e=.returned (.bool r)∧Below w.heap.size w w':=by
 unfold rgdec.f at h
 split at h
 case isFalse=>cases h
 rename_i h1
 split at h
 case isFalse=>cases h
 rename_i h2
 obtain rfl:A.decB l0_0 l1_0 l1_2=r:=Option.some.inj h
 exact A.dec_calls l0_0 A0_0 c0_0 A1_0 c1_0 l1_0 A1_1 c1_1 l1_1 A1_2 c1_2 l1_2 w hr0_0 hc0_0 hr1_0 hr1_2 h1 h2
end Go.Proofs.Ytedghbjmhcgilaa.POpt
end
